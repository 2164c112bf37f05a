/-
  STATES THAT MEAN THE SAME ARE MADE ONE: the least table.
-/
import Derived.Test.YtciibpfhjfegnaaGreatDoorF7
set_option linter.unusedVariables false
set_option linter.unusedSimpArgs false
namespace Go.Proofs.D
open Go Go.Abs
/-- Numbers of what is alike, as it is met; how many there are. -/
def relab {α : Type} [DecidableEq α] (l : List α) : List Int × Nat := ((rowK id [] (l.map some)).2, (rowK id [] (l.map some)).1.length)
theorem relab_spec {α : Type} [DecidableEq α] (l : List α) : (relab l).1.length = l.length ∧ (∀ (i : Nat) (x : α), l[i]? = some x → ∃ n : Nat, (relab l).1[i]? = some (n : Int) ∧ n < (relab l).2) ∧
    (∀ (i j : Nat) (x y : α) (s t : Int), l[i]? = some x → l[j]? = some y → (relab l).1[i]? = some s → (relab l).1[j]? = some t → (s = t ↔ x = y)) ∧ (∀ v, v < (relab l).2 → ∃ i : Nat, (relab l).1[i]? = some (v : Int)) := by
  obtain ⟨m, h1, h2, h3, h4, h5, _⟩ := rowK_spec (σ := α) (κ := α) id (l.map some) [] (by simp)
  rw [List.length_map] at h4
  unfold relab
  rw [List.nil_append] at h1
  generalize rowK id [] (l.map some) = p at h1 h2 h4 h5
  obtain ⟨all, r⟩ := p
  simp only at h1 h2 h4 h5
  subst h1
  rw [List.map_id] at h2
  have say : ∀ (i : Nat) (x : α), l[i]? = some x → ∃ n : Nat, r[i]? = some (n : Int) ∧ all[n]? = some x := fun i x hx => by
    have hi := (List.getElem?_eq_some_iff.1 hx).1
    have hr : r[i]? = some (r[i]'(by omega)) := by simp
    obtain ⟨n, e, hn⟩ := h5 i (some x) _ (by rw [List.getElem?_map, hx]; rfl) hr
    rw [List.map_id] at hn
    exact ⟨n, by rw [hr, e], hn⟩
  refine ⟨h4, fun i x hx => ?_, fun i j x y s t hx hy hs ht => ?_, fun v hv => ?_⟩
  · obtain ⟨n, a, b⟩ := say i x hx
    exact ⟨n, a, (List.getElem?_eq_some_iff.1 b).1⟩
  · obtain ⟨n, a, b⟩ := say i x hx
    obtain ⟨n', a', b'⟩ := say j y hy
    rw [hs] at a
    rw [ht] at a'
    cases a
    cases a'
    constructor
    · intro e
      have : n = n' := by omega
      subst this
      rw [b] at b'
      exact Option.some.inj b'
    · intro e
      subst e
      obtain ⟨p1, p2⟩ := List.getElem?_eq_some_iff.1 b
      obtain ⟨q1, q2⟩ := List.getElem?_eq_some_iff.1 b'
      rcases Nat.lt_trichotomy n n' with g | g | g
      · exact absurd (p2.trans q2.symm) (List.pairwise_iff_getElem.1 h2 _ _ p1 q1 g)
      · omega
      · exact absurd (q2.trans p2.symm) (List.pairwise_iff_getElem.1 h2 _ _ q1 p1 g)
  · obtain ⟨x, hx⟩ : ∃ x, all[v]? = some x := ⟨all[v], by simp⟩
    have hxl := h3 x (List.mem_of_getElem? hx)
    obtain ⟨y, hy, e⟩ := List.mem_map.1 hxl
    cases e
    obtain ⟨i, hi⟩ := List.getElem?_of_mem hy
    obtain ⟨n, a, b⟩ := say i x hi
    obtain ⟨p1, p2⟩ := List.getElem?_eq_some_iff.1 b
    obtain ⟨q1, q2⟩ := List.getElem?_eq_some_iff.1 hx
    have : n = v := by
      rcases Nat.lt_trichotomy n v with g | g | g
      · exact absurd (p2.trans q2.symm) (List.pairwise_iff_getElem.1 h2 _ _ p1 q1 g)
      · exact g
      · exact absurd (q2.trans p2.symm) (List.pairwise_iff_getElem.1 h2 _ _ q1 p1 g)
    exact ⟨i, by rw [a, this]⟩
def clsOf (C : List Int) (t : Int) : Int := if t < 0 then -1 else C.getD t.toNat 0
def signOf (d : Au) (C : List Int) (i : Nat) : List Int := C.getD i 0 :: ((d.next[i]?).getD []).map (clsOf C)
def signs (d : Au) (C : List Int) : List (List Int) := (List.range d.next.length).map (signOf d C)
def cls0 (d : Au) : List Int := d.final.map fun b => if b = true then 1 else 0
/-- What is known of classes: what means the same is in one; in one, rows end alike; those up to many are there. -/
structure Cls (d : Au) (L : Nat → Row → Prop) (C : List Int) (many : Nat) : Prop where
  len : C.length = d.next.length
  pos : ∀ c ∈ C, 0 ≤ c
  alike : ∀ i j, i < d.next.length → j < d.next.length → (∀ w, L i w ↔ L j w) → C.getD i 0 = C.getD j 0
  fin : ∀ i j, i < d.next.length → j < d.next.length → C.getD i 0 = C.getD j 0 → d.final.getD i false = d.final.getD j false
  all : ∀ v, v < many → ∃ i : Nat, i < d.next.length ∧ C.getD i 0 = v
def Exact (d : Au) (L : Nat → Row → Prop) (C : List Int) : Prop := ∀ i j, i < d.next.length → j < d.next.length → (C.getD i 0 = C.getD j 0 ↔ ∀ w, L i w ↔ L j w)
theorem stp_st {d : Au} {L : Nat → Row → Prop} (h : Sem0 d L) (hn : d.names.Nodup) {i : Nat} (hi : i < d.next.length) (a : ByteArray) : d.st (d.stp i a) ∧ ∀ w, L i (a :: w) ↔ LI L (d.stp i a) w := by
  obtain ⟨h1, h2⟩ := sem_step h (s := i) (.inr ⟨by omega, by simpa using hi⟩) a
  refine ⟨h1, fun w => ?_⟩
  rw [← h2 w]
  unfold LI
  simp
/-- Whether there is a next state hangs on what is meant. -/
def Even (d : Au) (L : Nat → Row → Prop) : Prop := ∀ i j, i < d.next.length → j < d.next.length → ∀ a ∈ d.names, (∀ w, L i (a :: w) ↔ L j (a :: w)) → (d.stp i a < 0 ↔ d.stp j a < 0)
theorem even_live {d : Au} {L : Nat → Row → Prop} (h : Sem d L) (hn : d.names.Nodup) : Even d L := by
  intro i j hi hj a ha hL
  obtain ⟨p1, p2⟩ := stp_st h.toSem0 hn hi a
  obtain ⟨q1, q2⟩ := stp_st h.toSem0 hn hj a
  constructor
  · intro hlt
    have := sem_dead h q1 fun w q => by
      have := (p2 w).1 ((hL w).2 ((q2 w).2 q))
      have := this.1
      omega
    omega
  · intro hlt
    have := sem_dead h p1 fun w q => by
      have := (q2 w).1 ((hL w).1 ((p2 w).2 q))
      have := this.1
      omega
    omega
theorem clsOf_alike {d : Au} {L : Nat → Row → Prop} (h : Sem0 d L) (hn : d.names.Nodup) (hz : Even d L) {C : List Int} {many : Nat} (hC : Cls d L C many) {i j : Nat} (hi : i < d.next.length) (hj : j < d.next.length) {a : ByteArray} (ha : a ∈ d.names) (hL : ∀ w, L i (a :: w) ↔ L j (a :: w)) : clsOf C (d.stp i a) = clsOf C (d.stp j a) := by
  have hz := hz i j hi hj a ha hL
  obtain ⟨p1, p2⟩ := stp_st h hn hi a
  obtain ⟨q1, q2⟩ := stp_st h hn hj a
  unfold clsOf
  by_cases h0 : d.stp i a < 0
  · rw [if_pos h0, if_pos (hz.1 h0)]
  · have h1 : ¬ d.stp j a < 0 := fun q => h0 (hz.2 q)
    rw [if_neg h0, if_neg h1]
    have hs' : (d.stp i a).toNat < d.next.length := by rcases p1 with q | q; omega; exact q.2
    have ht' : (d.stp j a).toNat < d.next.length := by rcases q1 with q | q; omega; exact q.2
    refine hC.alike _ _ hs' ht' fun w => ?_
    have e1 := p2 w
    have e2 := q2 w
    unfold LI at e1 e2
    constructor
    · intro q; exact (e2.1 ((hL w).1 (e1.2 ⟨by omega, q⟩))).2
    · intro q; exact (e1.1 ((hL w).2 (e2.2 ⟨by omega, q⟩))).2
theorem signs_get {d : Au} {L : Nat → Row → Prop} (h : Sem0 d L) (hn : d.names.Nodup) {C : List Int} {i : Nat} (hi : i < d.next.length) : (signs d C)[i]? = some (signOf d C i) := by simp [signs, hi]
section
variable {d : Au} {L : Nat → Row → Prop} (h : Sem0 d L) (hn : d.names.Nodup) (hz : Even d L)
include h
theorem cls_start : Cls d L (cls0 d) 0 := by
  have hg : ∀ i, i < d.next.length → (cls0 d).getD i 0 = if d.final.getD i false = true then 1 else 0 := fun i hi => by
    have : i < d.final.length := by rw [h.len]; exact hi
    simp [cls0, List.getD, this]
  refine ⟨by rw [cls0, List.length_map, h.len], fun c hc => ?_, fun i j hi hj hL => ?_, fun i j hi hj hc => ?_, fun v hv => absurd hv (by omega)⟩
  · obtain ⟨b, _, rfl⟩ := List.mem_map.1 hc
    split <;> decide
  · rw [hg i hi, hg j hj]
    have e : d.final.getD i false = d.final.getD j false := by
      rw [Bool.eq_iff_iff, h.fin i hi, h.fin j hj]
      exact hL []
    rw [e]
  · rw [hg i hi, hg j hj] at hc
    generalize d.final.getD i false = x at hc ⊢
    generalize d.final.getD j false = y at hc ⊢
    cases x <;> cases y <;> simp at hc ⊢
include hn
theorem sign_step {C : List Int} {i j : Nat} (hi : i < d.next.length) (hj : j < d.next.length) : signOf d C i = signOf d C j ↔ C.getD i 0 = C.getD j 0 ∧ ∀ a ∈ d.names, clsOf C (d.stp i a) = clsOf C (d.stp j a) := by
  have e1 : d.next[i]? = some d.next[i] := by simp
  have e2 : d.next[j]? = some d.next[j] := by simp
  have l1 := h.row d.next[i] (List.getElem_mem _)
  have l2 := h.row d.next[j] (List.getElem_mem _)
  unfold signOf
  rw [e1, e2, Option.getD_some, Option.getD_some, List.cons.injEq]
  refine and_congr_right fun _ => ?_
  constructor
  · intro e a ha
    obtain ⟨k, hk⟩ := List.getElem?_of_mem ha
    have g1 := getRow h hn e1 hk
    have g2 := getRow h hn e2 hk
    have := congrArg (fun l : List Int => l[k]?) e
    simp only [List.getElem?_map, g1, g2, Option.map_some, Option.some.injEq] at this
    exact this
  · intro e
    apply List.ext_getElem?
    intro k
    by_cases hk : k < d.names.length
    · have hk' : d.names[k]? = some d.names[k] := by simp
      rw [List.getElem?_map, List.getElem?_map, getRow h hn e1 hk', getRow h hn e2 hk']
      simp [e d.names[k] (List.getElem_mem _)]
    · rw [List.getElem?_eq_none (by simp; omega), List.getElem?_eq_none (by simp; omega)]
include hz
/-- One round: classes are told apart by what stands behind them. -/
theorem cls_round {C : List Int} {many : Nat} (hC : Cls d L C many) : Cls d L (relab (signs d C)).1 (relab (signs d C)).2 ∧ 0 < (relab (signs d C)).2 ∧ many ≤ (relab (signs d C)).2 ∧ (relab (signs d C)).2 ≤ d.next.length ∧ ((relab (signs d C)).2 = many → Exact d L (relab (signs d C)).1 ∧ Exact d L C) ∧ (∀ i j, i < d.next.length → j < d.next.length → (relab (signs d C)).1.getD i 0 = (relab (signs d C)).1.getD j 0 → C.getD i 0 = C.getD j 0) := by
  obtain ⟨r1, r2, r3, r4⟩ := relab_spec (signs d C)
  have hsl : (signs d C).length = d.next.length := by simp [signs]
  rw [hsl] at r1
  generalize relab (signs d C) = p at r1 r2 r3 r4
  obtain ⟨C', many'⟩ := p
  simp only at r1 r2 r3 r4 ⊢
  have hsg := fun i hi => signs_get (C := C) h hn (i := i) hi
  have hlab : ∀ i, i < d.next.length → ∃ n : Nat, C'.getD i 0 = n ∧ n < many' ∧ C'[i]? = some (n : Int) := fun i hi => by
    obtain ⟨n, a, b⟩ := r2 i _ (hsg i hi)
    exact ⟨n, by simp [List.getD, a], b, a⟩
  have hiff : ∀ i j, i < d.next.length → j < d.next.length → (C'.getD i 0 = C'.getD j 0 ↔ signOf d C i = signOf d C j) := fun i j hi hj => by
    obtain ⟨n, a, b, c⟩ := hlab i hi
    obtain ⟨n', a', b', c'⟩ := hlab j hj
    rw [a, a']
    exact r3 i j _ _ _ _ (hsg i hi) (hsg j hj) c c'
  have hidx : ∀ v, v < many' → ∃ i : Nat, i < d.next.length ∧ C'.getD i 0 = v := fun v hv => by
    obtain ⟨i, hi⟩ := r4 v hv
    have := (List.getElem?_eq_some_iff.1 hi).1
    exact ⟨i, by omega, by simp [List.getD, hi]⟩
  have hCls : Cls d L C' many' := by
    refine ⟨r1, fun c hc => ?_, fun i j hi hj hL => ?_, fun i j hi hj hc => ?_, hidx⟩
    · obtain ⟨i, hi⟩ := List.getElem?_of_mem hc
      have hil := (List.getElem?_eq_some_iff.1 hi).1
      obtain ⟨n, a, b, e⟩ := hlab i (by omega)
      rw [hi] at e
      cases e
      omega
    · refine (hiff i j hi hj).2 ((sign_step h hn hi hj).2 ⟨hC.alike i j hi hj hL, fun a ha => ?_⟩)
      exact clsOf_alike h hn hz hC hi hj ha fun w => hL (a :: w)
    · exact hC.fin i j hi hj ((sign_step h hn hi hj).1 ((hiff i j hi hj).1 hc)).1
  -- how many there are
  have hle : many' ≤ d.next.length := by
    have := nodup_sub_len ((List.range many').map fun v : Nat => (v : Int)) C' (nodup_map _ _ List.nodup_range fun x _ y _ e => by omega) fun x hx => by
      obtain ⟨v, hv, rfl⟩ := List.mem_map.1 hx
      obtain ⟨i, hi⟩ := r4 v (List.mem_range.1 hv)
      exact List.mem_of_getElem? hi
    simp at this
    omega
  have hreach : ∀ (V : List Int), V.Nodup → (∀ c ∈ V, ∃ i : Nat, i < d.next.length ∧ C.getD i 0 = c) → ∀ (X : List Nat), (∀ i, i < d.next.length → ∃ v ∈ X, C.getD i 0 = C.getD ((fun v => if hv : v < many' then (hidx v hv).choose else 0) v) 0) → V.length ≤ X.length := by
    intro V hV hc X hX
    have := nodup_sub_len V (X.map fun v => C.getD ((fun v => if hv : v < many' then (hidx v hv).choose else 0) v) 0) hV fun c hcv => by
      obtain ⟨i, hi, e⟩ := hc c hcv
      obtain ⟨v, hv, e'⟩ := hX i hi
      exact List.mem_map.2 ⟨v, hv, by rw [← e', e]⟩
    rwa [List.length_map] at this
  have hrep : ∀ (v : Nat) (hv : v < many'), (hidx v hv).choose < d.next.length ∧ C'.getD (hidx v hv).choose 0 = v := fun v hv => (hidx v hv).choose_spec
  have hcov : ∀ i, i < d.next.length → ∃ v, v < many' ∧ C'.getD i 0 = v ∧ C.getD i 0 = C.getD ((fun v => if hv : v < many' then (hidx v hv).choose else 0) v) 0 := fun i hi => by
    obtain ⟨n, a, b, _⟩ := hlab i hi
    refine ⟨n, b, a, ?_⟩
    simp only [dif_pos b]
    obtain ⟨x, y⟩ := hrep n b
    exact ((sign_step h hn hi x).1 ((hiff i _ hi x).1 (a.trans y.symm))).1
  have hV : ∀ c ∈ (List.range many).map (fun v : Nat => (v : Int)), ∃ i : Nat, i < d.next.length ∧ C.getD i 0 = c := fun c hc => by
    obtain ⟨v, hv, rfl⟩ := List.mem_map.1 hc
    exact hC.all v (List.mem_range.1 hv)
  have hVn : ((List.range many).map (fun v : Nat => (v : Int))).Nodup := nodup_map _ _ List.nodup_range fun x _ y _ e => by omega
  have hmm : many ≤ many' := by
    have := hreach _ hVn hV (List.range many') fun i hi => by
      obtain ⟨v, a, _, b⟩ := hcov i hi
      exact ⟨v, List.mem_range.2 a, b⟩
    simpa using this
  refine ⟨hCls, ?_, hmm, hle, fun heq => ?_, fun i j hi hj hc => ((sign_step h hn hi hj).1 ((hiff i j hi hj).1 hc)).1⟩
  · obtain ⟨n, _, b, _⟩ := hlab 0 h.pos
    omega
  · subst heq
    -- the rounds before told as many apart
    have hsame : ∀ i j, i < d.next.length → j < d.next.length → C.getD i 0 = C.getD j 0 → C'.getD i 0 = C'.getD j 0 := by
      intro i j hi hj hc
      refine Classical.byContradiction fun hne => ?_
      obtain ⟨vi, a1, a2, a3⟩ := hcov i hi
      obtain ⟨vj, b1, b2, b3⟩ := hcov j hj
      have hvij : vi ≠ vj := fun e => hne (by rw [a2, b2, e])
      have := hreach _ hVn hV ((List.range many').filter (fun v => decide (v ≠ vj))) fun k hk => by
        obtain ⟨v, c1, c2, c3⟩ := hcov k hk
        by_cases hv : v = vj
        · exact ⟨vi, by simp [a1, hvij], by rw [c3, hv, ← b3, ← hc, a3]⟩
        · exact ⟨v, by simp [c1, hv], c3⟩
      have hfl : ((List.range many').filter (fun v => decide (v ≠ vj))).length < many' := by
        have h1 : ((List.range many').filter (fun v => decide (v ≠ vj))).length ≤ ((List.range many').erase vj).length := nodup_sub_len _ _ (List.nodup_range.filter _) fun x hx => by
          simp at hx
          exact (List.mem_erase_of_ne hx.2).2 (List.mem_range.2 hx.1)
        have h2 := List.length_erase_of_mem (List.mem_range.2 b1)
        simp at h2
        omega
      simp only [List.length_map, List.length_range] at this
      omega
    have hstab : ∀ i j, i < d.next.length → j < d.next.length → C.getD i 0 = C.getD j 0 → ∀ a ∈ d.names, clsOf C (d.stp i a) = clsOf C (d.stp j a) := fun i j hi hj hc => ((sign_step h hn hi hj).1 ((hiff i j hi hj).1 (hsame i j hi hj hc))).2
    have hlang : ∀ (w : Row) (i j : Nat), i < d.next.length → j < d.next.length → C.getD i 0 = C.getD j 0 → (L i w ↔ L j w) := by
      intro w
      induction w with
      | nil =>
        intro i j hi hj hc
        rw [← h.fin i hi, ← h.fin j hj, hC.fin i j hi hj hc]
      | cons a w ih =>
        intro i j hi hj hc
        by_cases ha : a ∈ d.names
        · obtain ⟨p1, p2⟩ := stp_st h hn hi a
          obtain ⟨q1, q2⟩ := stp_st h hn hj a
          rw [p2 w, q2 w]
          have hcl := hstab i j hi hj hc a ha
          generalize d.stp (i : Int) a = s at p1 hcl
          generalize d.stp (j : Int) a = t at q1 hcl
          have hpos : ∀ k, k < d.next.length → 0 ≤ C.getD k 0 := fun k hk => by
            have hkl : k < C.length := by rw [hC.len]; exact hk
            have := hC.pos C[k] (List.getElem_mem _)
            simpa [List.getD, hkl] using this
          unfold clsOf at hcl
          rcases p1 with rfl | ⟨p0, p1⟩
          · rcases q1 with rfl | ⟨q0, q1⟩
            · rfl
            · have := hpos _ q1
              rw [if_pos (by decide), if_neg (by omega)] at hcl
              omega
          · rcases q1 with rfl | ⟨q0, q1⟩
            · have := hpos _ p1
              rw [if_neg (by omega), if_pos (by decide)] at hcl
              omega
            · rw [if_neg (by omega), if_neg (by omega)] at hcl
              unfold LI
              have := ih s.toNat t.toNat p1 q1 hcl
              simp [p0, q0, this]
        · exact ⟨fun q => absurd (h.only i hi a w q) ha, fun q => absurd (h.only j hj a w q) ha⟩
    refine ⟨fun i j hi hj => ⟨fun hc w => ?_, fun hL => hCls.alike i j hi hj hL⟩, fun i j hi hj => ⟨fun hc w => hlang w i j hi hj hc, fun hL => hC.alike i j hi hj hL⟩⟩
    exact hlang w i j hi hj ((sign_step h hn hi hj).1 ((hiff i j hi hj).1 hc)).1
end
/-- The table whose states are the classes, as they are met. -/
def nextN (d : Au) (s : Nat) : List (Option Nat) := ((d.next[s]?).getD []).map fun t => if t < 0 then none else some t.toNat
def numM (d : Au) (C : List Int) (i : Nat) : List Nat × List (List Int) := met (fun s => C.getD s 0) (nextN d) 0 i
def numbered (d : Au) (C : List Int) : Au := ⟨d.names, (numM d C d.next.length).2, (numM d C d.next.length).1.map fun s => d.final.getD s false⟩
theorem numM_of {d : Au} {L : Nat → Row → Prop} (h : Sem0 d L) (hn : d.names.Nodup) (C : List Int) (i : Nat) : ∀ s ∈ (numM d C i).1, s < d.next.length := by
  refine met_all _ _ _ (fun s => s < d.next.length) h.pos (fun s hs t ht => ?_) i
  obtain ⟨x, hx, e⟩ := List.mem_map.1 ht
  split at e
  · cases e
  · rename_i g
    cases e
    have e1 : d.next[s]? = some d.next[s] := by simp
    rw [e1, Option.getD_some] at hx
    obtain ⟨k, hk⟩ := List.getElem?_of_mem hx
    have hkl := (List.getElem?_eq_some_iff.1 hk).1
    have hkn : k < d.names.length := by rw [← h.row d.next[s] (List.getElem_mem _)]; exact hkl
    have := getRow h hn e1 (show d.names[k]? = some d.names[k] by simp)
    rw [hk] at this
    cases this
    rcases (stp_st h hn hs d.names[k]).1 with q | q
    · omega
    · exact q.2
theorem numM_len {d : Au} {L : Nat → Row → Prop} (h : Sem0 d L) (hn : d.names.Nodup) (C : List Int) (i : Nat) : (numM d C i).1.length ≤ d.next.length := by
  have hM := met_is (fun s => C.getD s 0) (nextN d) 0 i
  have h1 : (numM d C i).1.Nodup := by
    have := hM.nodup
    exact (List.pairwise_map.1 this).imp fun hne e => hne (by rw [e])
  have := nodup_sub_len _ (List.range d.next.length) h1 fun s hs => List.mem_range.2 (numM_of h hn C i s hs)
  simpa using this
def numL (d : Au) (C : List Int) (L : Nat → Row → Prop) (i : Nat) (w : Row) : Prop := ∃ s, (numM d C d.next.length).1[i]? = some s ∧ L s w
theorem numbered_least0 {d : Au} {L : Nat → Row → Prop} (h : Sem0 d L) (hn : d.names.Nodup) {C : List Int} (hC : Exact d L C) (hlive : ∀ s ∈ (numM d C d.next.length).1, ∃ w, L s w) : Least (numbered d C) (numL d C L) ∧ ∀ w, numL d C L 0 w ↔ L 0 w := by
  have hM : Met (fun s => C.getD s 0) (nextN d) 0 d.next.length (numM d C d.next.length).1 (numM d C d.next.length).2 := met_is _ _ _ _
  have hlen := numM_len h hn C d.next.length
  have hof := numM_of h hn C d.next.length
  unfold numbered numL
  generalize numM d C d.next.length = M at hM hlen hof hlive
  obtain ⟨all, rows⟩ := M
  simp only at hM hlen hof hlive
  have h0 := met_pos _ _ _ hM
  have hrl : rows.length = all.length := by rcases hM.many with g | g <;> omega
  have hrow : ∀ i, i < all.length → ∃ s r, all[i]? = some s ∧ rows[i]? = some r ∧ s < d.next.length := fun i hi => ⟨all[i], rows[i]'(by omega), by simp, by simp, hof _ (List.getElem_mem _)⟩
  have hlenr : ∀ r ∈ rows, r.length = d.names.length := fun r hr => by
    obtain ⟨i, hi⟩ := List.getElem?_of_mem hr
    have hil := (List.getElem?_eq_some_iff.1 hi).1
    have hi' : i < all.length := by omega
    have hs := hof all[i] (List.getElem_mem _)
    rw [(hM.row i all[i] r (by simp) hi).1, nextN, List.length_map, List.getElem?_eq_getElem hs, Option.getD_some]
    exact h.row _ (List.getElem_mem _)
  have hst : ∀ (i s : Nat), all[i]? = some s → ∀ a ∈ d.names, Says (fun s => C.getD s 0) all (if d.stp s a < 0 then none else some (d.stp s a).toNat) ((Au.mk d.names rows (all.map fun s => d.final.getD s false)).stp i a) := by
    intro i s hs a ha
    have hil := (List.getElem?_eq_some_iff.1 hs).1
    have hsl := hof s (List.mem_of_getElem? hs)
    have hr : rows[i]? = some (rows[i]'(by omega)) := by simp
    obtain ⟨g1, g2⟩ := hM.row i s _ hs hr
    have hix := ixK_mem ha
    have hxl : ixK a d.names < (rows[i]'(by omega)).length := by rw [hlenr _ (List.getElem_mem _)]; exact ixK_lt ha
    have e1 : d.next[s]? = some d.next[s] := by simp
    have := g2 (ixK a d.names) (if d.stp s a < 0 then none else some (d.stp s a).toNat) _ (by
      unfold nextN
      rw [List.getElem?_map, e1, Option.getD_some, getRow h hn e1 hix]
      rfl) (List.getElem?_eq_getElem hxl)
    have e2 : (Au.mk d.names rows (all.map fun s => d.final.getD s false)).stp i a = (rows[i]'(by omega))[ixK a d.names] := by
      simp only [Au.stp]
      rw [if_neg (by omega), Int.toNat_natCast, hr, Option.getD_some]
      simp [List.getD, hxl]
    rw [e2]
    exact this
  refine ⟨⟨⟨⟨?_, ?_, hlenr, ?_, ?_, ?_⟩, ?_⟩, ?_, ?_⟩, ?_⟩
  · show 0 < rows.length
    omega
  · show (all.map _).length = rows.length
    rw [List.length_map, hrl]
  · intro i hi
    have hi : i < rows.length := hi
    obtain ⟨s, r, hs, hr, hsl⟩ := hrow i (by omega)
    have : (all.map fun s => d.final.getD s false).getD i false = d.final.getD s false := by simp [List.getD, hs]
    show (all.map fun s => d.final.getD s false).getD i false = true ↔ _
    rw [this, h.fin s hsl]
    exact ⟨fun q => ⟨s, hs, q⟩, fun ⟨s', hs', q⟩ => by rw [hs] at hs'; cases hs'; exact q⟩
  · intro i hi a ha
    have hi : i < rows.length := hi
    obtain ⟨s, r, hs, hr, hsl⟩ := hrow i (by omega)
    have hsay := hst i s hs a ha
    obtain ⟨p1, p2⟩ := stp_st h hn hsl a
    by_cases hneg : d.stp s a < 0
    · rw [if_pos hneg] at hsay
      refine .inl ⟨hsay, fun w => ?_⟩
      rintro ⟨s', hs', q⟩
      rw [hs] at hs'
      cases hs'
      exact absurd ((p2 w).1 q).1 (by omega)
    · rw [if_neg hneg] at hsay
      obtain ⟨n, e, hn'⟩ := hsay
      rw [List.getElem?_map] at hn'
      obtain ⟨u, hu, hk⟩ := Option.map_eq_some_iff.1 hn'
      have hul := hof u (List.mem_of_getElem? hu)
      have hnl := (List.getElem?_eq_some_iff.1 hu).1
      have htl : (d.stp s a).toNat < d.next.length := by rcases p1 with q | q; omega; exact q.2
      have hL := (hC u _ hul htl).1 hk
      refine .inr ⟨n, e, by show n < rows.length; omega, fun w => ?_⟩
      constructor
      · rintro ⟨s', hs', q⟩
        rw [hs] at hs'
        cases hs'
        exact ⟨u, hu, (hL w).2 ((p2 w).1 q).2⟩
      · rintro ⟨u', hu', q⟩
        rw [hu] at hu'
        cases hu'
        exact ⟨s, hs, (p2 w).2 ⟨by omega, (hL w).1 q⟩⟩
  · intro i hi a w
    rintro ⟨s, hs, q⟩
    exact h.only s (hof s (List.mem_of_getElem? hs)) a w q
  · intro i hi
    have hi : i < rows.length := hi
    obtain ⟨s, r, hs, hr, hsl⟩ := hrow i (by omega)
    obtain ⟨w, hw⟩ := hlive s (List.mem_of_getElem? hs)
    exact ⟨w, s, hs, hw⟩
  · intro i j hi hj hL
    have hi : i < rows.length := hi
    have hj : j < rows.length := hj
    obtain ⟨s, _, hs, _, hsl⟩ := hrow i (by omega)
    obtain ⟨t, _, ht, _, htl⟩ := hrow j (by omega)
    have he := (hC s t hsl htl).2 fun w => ⟨fun q => by
      obtain ⟨t', ht', q'⟩ := (hL w).1 ⟨s, hs, q⟩
      rw [ht] at ht'
      cases ht'
      exact q', fun q => by
      obtain ⟨s', hs', q'⟩ := (hL w).2 ⟨t, ht, q⟩
      rw [hs] at hs'
      cases hs'
      exact q'⟩
    have g1 : (all.map fun s => C.getD s 0)[i]? = some (C.getD s 0) := by rw [List.getElem?_map, hs]; rfl
    have g2 : (all.map fun s => C.getD s 0)[j]? = some (C.getD s 0) := by rw [List.getElem?_map, ht, he]; rfl
    obtain ⟨p1, p2⟩ := List.getElem?_eq_some_iff.1 g1
    obtain ⟨q1, q2⟩ := List.getElem?_eq_some_iff.1 g2
    rcases Nat.lt_trichotomy i j with g | g | g
    · exact absurd (p2.trans q2.symm) (List.pairwise_iff_getElem.1 hM.nodup _ _ p1 q1 g)
    · exact g
    · exact absurd (q2.trans p2.symm) (List.pairwise_iff_getElem.1 hM.nodup _ _ q1 p1 g)
  · show tabOrd 0 0 rows = some ((rows.length : Int) - 1)
    rw [hM.ord, hrl]
  · intro w
    constructor
    · rintro ⟨s, hs, q⟩
      rw [hM.first] at hs
      cases hs
      exact q
    · intro q
      exact ⟨0, hM.first, q⟩
theorem numbered_least {d : Au} {L : Nat → Row → Prop} (h : Sem d L) (hn : d.names.Nodup) {C : List Int} (hC : Exact d L C) : Least (numbered d C) (numL d C L) ∧ ∀ w, numL d C L 0 w ↔ L 0 w :=
  numbered_least0 h.toSem0 hn hC fun s hs => h.live s (numM_of h.toSem0 hn C _ s hs)
/-- Whatever classes are exact: it is one table. -/
theorem numbered_one {d : Au} {L : Nat → Row → Prop} (h : Sem d L) (hn : d.names.Nodup) {C C' : List Int} (hC : Exact d L C) (hC' : Exact d L C') : numbered d C = numbered d C' := by
  obtain ⟨h1, h2⟩ := numbered_least h hn hC
  obtain ⟨h3, h4⟩ := numbered_least h hn hC'
  obtain ⟨e1, e2⟩ := least_one h1 h3 hn rfl fun w => (h2 w).trans (h4 w).symm
  have : ∀ a b : Au, a.names = b.names → a.next = b.next → a.final = b.final → a = b := fun ⟨_, _, _⟩ ⟨_, _, _⟩ h1 h2 h3 => by
    simp only at h1 h2 h3
    rw [h1, h2, h3]
  exact this _ _ rfl e1 e2
open Classical in
noncomputable def cstar (n : Nat) (L : Nat → Row → Prop) : List Int := (List.range n).map fun i => ((List.range n).findIdx fun j => decide (∀ w, L j w ↔ L i w) : Nat)
open Classical in
theorem cstar_exact (d : Au) (L : Nat → Row → Prop) : Exact d L (cstar d.next.length L) := by
  intro i j hi hj
  have hg : ∀ i, i < d.next.length → (cstar d.next.length L).getD i 0 = ((List.range d.next.length).findIdx fun j => decide (∀ w, L j w ↔ L i w) : Nat) := fun i hi => by simp [cstar, List.getD, hi]
  rw [hg i hi, hg j hj]
  have hf : ∀ i, i < d.next.length → ∃ hlt : (List.range d.next.length).findIdx (fun j => decide (∀ w, L j w ↔ L i w)) < d.next.length, ∀ w, L ((List.range d.next.length).findIdx (fun j => decide (∀ w, L j w ↔ L i w))) w ↔ L i w := fun i hi => by
    have hlt : (List.range d.next.length).findIdx (fun j => decide (∀ w, L j w ↔ L i w)) < (List.range d.next.length).length := List.findIdx_lt_length_of_exists ⟨i, by simp [hi], by simp⟩
    have := List.findIdx_getElem (w := hlt)
    simp only [List.getElem_range, decide_eq_true_eq] at this
    exact ⟨by simpa using hlt, this⟩
  constructor
  · intro e w
    have e : (List.range d.next.length).findIdx (fun j => decide (∀ w, L j w ↔ L i w)) = (List.range d.next.length).findIdx (fun k => decide (∀ w, L k w ↔ L j w)) := by omega
    obtain ⟨_, h1⟩ := hf i hi
    obtain ⟨_, h2⟩ := hf j hj
    rw [e] at h1
    exact (h1 w).symm.trans (h2 w)
  · intro hL
    have : (fun k => decide (∀ w, L k w ↔ L i w)) = fun k => decide (∀ w, L k w ↔ L j w) := by
      funext k
      congr 1
      apply propext
      exact ⟨fun q w => (q w).trans (hL w), fun q w => (q w).trans (hL w).symm⟩
    rw [this]
/-- The least table of what one means. -/
noncomputable def leastA (d : Au) (L : Nat → Row → Prop) : Au := numbered d (cstar d.next.length L)
theorem leastA_eq {d : Au} {L : Nat → Row → Prop} (h : Sem d L) (hn : d.names.Nodup) {C : List Int} (hC : Exact d L C) : numbered d C = leastA d L := numbered_one h hn hC (cstar_exact d L)
end Go.Proofs.D
/-
  AN EXPRESSION THAT IS WRITTEN IS READ AS IT WAS: items; the whole.
-/
set_option linter.unusedVariables false
set_option linter.unusedSimpArgs false
namespace Go.Proofs.D
open Go Go.Abs
theorem text_low : ∀ c ∈ (⟨#[116, 101, 120, 116]⟩ : ByteArray).data.toList, isLow c = true := by decide
theorem name_low6 {e : E} (h : e.ok = true) (h1 : e.op = 110) : (∀ c ∈ e.name.data.toList, isLow c = true) ∧ e.name.data.toList ≠ [] := by
  rw [E.ok_eq] at h
  simp [h1] at h
  rcases h.2 with h | h
  · simp only [isName, Bool.and_eq_true, decide_eq_true_eq, List.all_eq_true] at h
    obtain ⟨⟨⟨h2, h3⟩, h4⟩, _⟩ := h
    refine ⟨fun c hc => by have := h4 c hc; simp [isLow, this], fun hn => ?_⟩
    have : e.name.data.toList.length = e.name.size := Array.length_toList
    rw [hn] at this
    simp at this
    omega
  · rw [h]
    exact ⟨text_low, by decide⟩
theorem head_ok (e : E) (h : e.ok = true) (b : Bool) : ∃ c l, e.txl b = c :: l ∧ c ≠ 41 ∧ (isLow c = true ∨ c = 40) := by
  have hkid : ∀ k ∈ e.kids, ¬ e.op = 110 → ∀ b, ∃ c l, k.txl b = c :: l ∧ c ≠ 41 ∧ (isLow c = true ∨ c = 40) := fun k hk h1 b => head_ok k (E.ok_kids h h1 k hk).1 b
  rcases E.ok_ops h with ⟨h1, _⟩ | ⟨h1, _, h2⟩ | ⟨h1, _, h2⟩ | ⟨h1, _, k, h2, _⟩
  · obtain ⟨a, b'⟩ := name_low6 h h1
    unfold E.txl
    rw [text_eq, if_pos h1]
    cases hl : e.name.data.toList with
    | nil => exact absurd hl b'
    | cons c l =>
      rw [hl] at a
      have := a c (by simp)
      refine ⟨c, l, rfl, fun hc => ?_, .inl this⟩
      subst hc
      cases this
  · unfold E.txl
    rw [text_eq, if_neg (by omega), if_pos h1]
    split
    · exact ⟨40, [41], rfl, by decide, .inr rfl⟩
    · rw [par_list]
      split
      · exact ⟨40, _, rfl, by decide, .inr rfl⟩
      · cases hkk : e.kids with
        | nil => rename_i h0 _; rw [hkk] at h0; simp at h0
        | cons x xs =>
          obtain ⟨c, l, q1, q2, q3⟩ := hkid x (by rw [hkk]; simp) (by omega) (!decide (e.op = 97))
          have := join_list (fun z => z.text (!decide (e.op = 97))) 32 x xs
          rw [this]
          exact ⟨c, _, by rw [show (x.text (!decide (e.op = 97))).data.toList = c :: l from q1]; rfl, q2, q3⟩
  · unfold E.txl
    rw [text_eq, if_neg (by omega), if_neg (by omega), if_pos h1, par_list]
    split
    · exact ⟨40, _, rfl, by decide, .inr rfl⟩
    · cases hkk : e.kids with
      | nil => rw [hkk] at h2; simp at h2
      | cons x xs =>
        obtain ⟨c, l, q1, q2, q3⟩ := hkid x (by rw [hkk]; simp) (by omega) (!decide (e.op = 97))
        have := join_list (fun z => z.text (!decide (e.op = 97))) 124 x xs
        rw [this]
        exact ⟨c, _, by rw [show (x.text (!decide (e.op = 97))).data.toList = c :: l from q1]; rfl, q2, q3⟩
  · unfold E.txl
    rw [text_eq, if_neg (by omega), if_neg (by omega), if_neg (by omega), app_list, h2]
    obtain ⟨c, l, q1, q2, q3⟩ := hkid k (by rw [h2]; simp) (by omega) (!decide (e.op = 97))
    have e1 : joinB ([k].map fun z => z.text (!decide (e.op = 97))) ⟨#[]⟩ = k.text (!decide (e.op = 97)) := ext_list (by simp [joinB, Lib.join_one])
    rw [e1]
    exact ⟨c, _, by rw [show (k.text (!decide (e.op = 97))).data.toList = c :: l from q1]; rfl, q2, q3⟩
termination_by SizeOf.sizeOf e
decreasing_by exact E.kids_lt hk
/-- What stands ahead of a sign behind it, as item reads it. -/
theorem base_reads (k : Nat) (e : E) (hok : e.ok = true) (hsx : e.suffix = false) (halt : e.op = 97 ∨ (e.op = 115 ∧ e.kids ≠ []) → Reads (altR k) (e.txl false) e (e.cnt - 1) Calt) (r : List UInt8) (m : Int) (hr : ∀ c, r.head? = some c → isLow c = false) (h0 : 0 ≤ m) (hm : m + (e.cnt - 1 : Nat) ≤ 48) :
    ∃ m' : Int, m ≤ m' ∧ m' ≤ m + (e.cnt - 1 : Nat) ∧ baseF tl (altR k) ⟨B (e.txl true ++ r), false, m⟩ = (e, ⟨B r, false, m'⟩) := by
  have hmk : e = .mk e.op e.name e.kids := by obtain ⟨o, n, ks⟩ := e; rfl
  have bracket : e.txl true = 40 :: (e.txl false ++ [41]) → (e.op = 97 ∨ (e.op = 115 ∧ e.kids ≠ [])) → ∃ m' : Int, m ≤ m' ∧ m' ≤ m + (e.cnt - 1 : Nat) ∧ baseF tl (altR k) ⟨B (e.txl true ++ r), false, m⟩ = (e, ⟨B r, false, m'⟩) := by
    intro ht hop
    obtain ⟨c, l, q1, q2, q3⟩ := head_ok e hok false
    obtain ⟨m', a, b, h⟩ := halt hop (41 :: r) m ⟨⟨Cend_cons (by decide) (by decide) (by decide) (by decide) r, by simp⟩, by simp⟩ h0 hm
    refine ⟨m', a, b, ?_⟩
    have e1 : e.txl true ++ r = [40] ++ (e.txl false ++ (41 :: r)) := by rw [ht]; simp
    have p1 : hasPre (B ([40] ++ (e.txl false ++ (41 :: r)))) ⟨#[40, 41]⟩ = false := by
      cases hh : hasPre (B ([40] ++ (e.txl false ++ (41 :: r)))) ⟨#[40, 41]⟩ with
      | false => rfl
      | true =>
        obtain ⟨z, hz⟩ := (hp_iff _ [40, 41]).1 hh
        rw [q1] at hz
        simp at hz
        exact absurd hz.1 q2
    have p2 := hp_yes [40] (e.txl false ++ (41 :: r))
    have p3 := hp_yes [41] r
    unfold baseF
    rw [e1]
    simp only [p1, St.cut, cp_no p1, show hasPre (B ([40] ++ (e.txl false ++ (41 :: r)))) ⟨#[40]⟩ = true from p2, show cutPre (B ([40] ++ (e.txl false ++ (41 :: r)))) ⟨#[40]⟩ = B (e.txl false ++ (41 :: r)) from cp_yes [40] _, h,
      show hasPre (B (41 :: r)) ⟨#[41]⟩ = true from p3, show cutPre (B (41 :: r)) ⟨#[41]⟩ = B r from cp_yes [41] r]
    rfl
  rcases E.ok_ops hok with ⟨h1, hk⟩ | ⟨h1, hn, h2⟩ | ⟨h1, hn, h2⟩ | ⟨h1, hn, x, h2, _⟩
  · obtain ⟨hl, hne⟩ := name_low6 hok h1
    have ht : e.txl true = e.name.data.toList := by unfold E.txl; rw [text_eq, if_pos h1]
    refine ⟨m, Int.le_refl _, by omega, ?_⟩
    rw [ht]
    have hd : (e.name.data.toList ++ r).dropWhile isLow = r := by
      have : ∀ l : List UInt8, (∀ c ∈ l, isLow c = true) → (l ++ r).dropWhile isLow = r := by
        intro l
        induction l with
        | nil =>
          intro _
          cases r with
          | nil => rfl
          | cons c r => simp [List.dropWhile, hr c rfl]
        | cons x l ih =>
          intro h
          simp [List.dropWhile, h x (by simp), ih fun c hc => h c (by simp [hc])]
      exact this _ hl
    have hh : ∀ x : UInt8, isLow x = false → (e.name.data.toList ++ r).head? ≠ some x := by
      intro x hx
      cases hnl : e.name.data.toList with
      | nil => exact absurd hnl hne
      | cons c l =>
        simp
        intro hc
        subst hc
        rw [hl c (by rw [hnl]; simp)] at hx
        cases hx
    have p1 : hasPre (B (e.name.data.toList ++ r)) ⟨#[40, 41]⟩ = false := by
      cases hq : hasPre (B (e.name.data.toList ++ r)) ⟨#[40, 41]⟩ with
      | false => rfl
      | true =>
        obtain ⟨z, hz⟩ := (hp_iff _ [40, 41]).1 hq
        exact absurd (by rw [hz]; rfl) (hh 40 (by decide))
    have p2 : hasPre (B (e.name.data.toList ++ r)) ⟨#[40]⟩ = false := hp_one_no (hh 40 (by decide))
    have htl : tl (B (e.name.data.toList ++ r)) = B r := by rw [tl_B, hd]
    have hex : (B (e.name.data.toList ++ r)).extract 0 ((B (e.name.data.toList ++ r)).size - (B r).size) = e.name := by
      refine ext_list ?_
      rw [extract_list, B_list, B_size, B_size]
      simp
    unfold baseF
    simp only [p1, St.cut, cp_no p1, p2, cp_no p2, htl, hex]
    conv => rhs; rw [hmk, h1, hk]
    rfl
  · by_cases hk : e.kids = []
    · have ht : e.txl true = [40, 41] := by unfold E.txl; rw [text_eq, if_neg (by omega), if_pos h1, if_pos (by rw [hk]; rfl)]
      refine ⟨m, Int.le_refl _, by omega, ?_⟩
      rw [ht]
      unfold baseF
      have p1 := hp_yes [40, 41] r
      simp only [show hasPre (B ([40, 41] ++ r)) ⟨#[40, 41]⟩ = true from p1, St.cut, show cutPre (B ([40, 41] ++ r)) ⟨#[40, 41]⟩ = B r from cp_yes [40, 41] r]
      conv => rhs; rw [hmk, h1, hk, hn]
      rfl
    · refine bracket ?_ (.inr ⟨h1, hk⟩)
      have ht : ∀ b, e.text b = par b (joinB (e.kids.map fun k => k.text (!decide (e.op = 97))) ⟨#[32]⟩) := fun b => by
        rw [text_eq, if_neg (by omega), if_pos h1, if_neg (by simpa using hk)]
      unfold E.txl
      rw [ht, ht, par_list, par_list]
      simp
  · refine bracket ?_ (.inl h1)
    have ht : ∀ b, e.text b = par b (joinB (e.kids.map fun k => k.text (!decide (e.op = 97))) ⟨#[124]⟩) := fun b => by
      rw [text_eq, if_neg (by omega), if_neg (by omega), if_pos h1]
    unfold E.txl
    rw [ht, ht, par_list, par_list]
    simp
  · exfalso
    simp [E.suffix] at hsx
    omega
theorem sfx_none (e : E) (r : List UInt8) (m : Int) (hr : Cend r) : sfx e [42, 43, 63] ⟨B r, false, m⟩ = (e, ⟨B r, false, m⟩) := by
  have h : ∀ c : UInt8, (c = 42 ∨ c = 43 ∨ c = 63) → hasPre (B r) (B [c]) = false := by
    intro c hc
    refine hp_one_no fun hh => ?_
    have := hr c hh
    rcases hc with rfl | rfl | rfl
    · exact this.2.1 rfl
    · exact this.2.2.1 rfl
    · exact this.2.2.2 rfl
  have h1 : hasPre (B r) ⟨#[42]⟩ = false := h 42 (by simp)
  have h2 : hasPre (B r) ⟨#[43]⟩ = false := h 43 (by simp)
  have h3 : hasPre (B r) ⟨#[63]⟩ = false := h 63 (by simp)
  simp only [sfx, enc42, enc43, enc63, h1, h2, h3, St.cut, cp_no h1, cp_no h2, cp_no h3]
  rfl
theorem sfx_one (e : E) (o : Int) (c : UInt8) (ho : (o = 42 ∧ c = 42) ∨ (o = 43 ∧ c = 43) ∨ (o = 63 ∧ c = 63)) (r : List UInt8) (m : Int) : sfx e [42, 43, 63] ⟨B (c :: r), false, m⟩ = (.mk o ⟨#[]⟩ [e], ⟨B r, false, m⟩) := by
  have hy := hp_yes [c] r
  have hc := cp_yes [c] r
  have hn : ∀ d : UInt8, d ≠ c → hasPre (B (c :: r)) (B [d]) = false := fun d hd => hp_one_no (by simp; exact fun h => hd h.symm)
  rcases ho with ⟨rfl, rfl⟩ | ⟨rfl, rfl⟩ | ⟨rfl, rfl⟩
  · have h1 : hasPre (B (42 :: r)) ⟨#[42]⟩ = true := hy
    have h2 : cutPre (B (42 :: r)) ⟨#[42]⟩ = B r := hc
    simp only [sfx, enc42, h1, St.cut, h2]
    rfl
  · have h1 : hasPre (B (43 :: r)) ⟨#[43]⟩ = true := hy
    have h2 : cutPre (B (43 :: r)) ⟨#[43]⟩ = B r := hc
    have h3 : hasPre (B (43 :: r)) ⟨#[42]⟩ = false := hn 42 (by decide)
    simp only [sfx, enc42, enc43, h1, St.cut, h2, h3, cp_no h3]
    rfl
  · have h1 : hasPre (B (63 :: r)) ⟨#[63]⟩ = true := hy
    have h2 : cutPre (B (63 :: r)) ⟨#[63]⟩ = B r := hc
    have h3 : hasPre (B (63 :: r)) ⟨#[42]⟩ = false := hn 42 (by decide)
    have h4 : hasPre (B (63 :: r)) ⟨#[43]⟩ = false := hn 43 (by decide)
    simp only [sfx, enc42, enc43, enc63, h1, St.cut, h2, h3, cp_no h3, h4, cp_no h4]
    rfl
theorem enc_op {o : Int} (h : o = 42 ∨ o = 43 ∨ o = 63) : ∃ c : UInt8, Utf8.encode (wr .i32 o) = B [c] ∧ ((o = 42 ∧ c = 42) ∨ (o = 43 ∧ c = 43) ∨ (o = 63 ∧ c = 63)) ∧ isLow c = false := by
  rcases h with rfl | rfl | rfl
  · exact ⟨42, enc42, by simp, by decide⟩
  · exact ⟨43, enc43, by simp, by decide⟩
  · exact ⟨63, enc63, by simp, by decide⟩
/-- Each item is read as it was written, whatever fuel is left, if there is enough. -/
theorem item_reads : ∀ (n : Nat) (e : E), e.cnt ≤ n → e.ok = true → ∀ k, e.cnt ≤ k → Reads (itemN tl k) (e.txl true) e e.cnt Cend
  | 0, e, hn, _, _, _ => by have := cnt_eq e; omega
  | n + 1, e, hn, hok, k, hk => by
    have hc := cnt_eq e
    obtain ⟨k, rfl⟩ : ∃ j, k = j + 1 := ⟨k - 1, by omega⟩
    have IH : ∀ y : E, y.cnt < e.cnt → y.ok = true → Reads (itemN tl k) (y.txl true) y y.cnt Cend := fun y hy hyo => item_reads n y (by omega) hyo k (by omega)
    -- a sequence or less, of which all items are smaller
    have SQ : ∀ y : E, y.cnt < e.cnt → y.ok = true → y.op ≠ 97 → Reads (seqR k) (y.txl false) y y.cnt Cseq := fun y hy hyo hna =>
      seq_reads k y hyo hna (fun _ => IH y hy hyo) (fun h115 z hz => IH z (by have := cnt_kid hz; omega) (E.ok_kids hyo (by omega) z hz).1) y.cnt (fun _ => by omega) (fun _ => Nat.le_refl _)
    have AL : ∀ y : E, y.cnt ≤ e.cnt → y.ok = true → (y.op = 97 ∨ (y.op = 115 ∧ y.kids ≠ [])) → Reads (altR k) (y.txl false) y (y.cnt - 1) Calt := fun y hy hyo hop => by
      refine alt_reads k y hyo (y.cnt - 1) (fun h97 => ?_) (fun h97 z hz => ?_) (fun _ => Nat.le_refl _)
      · have h115 : y.op = 115 ∧ y.kids ≠ [] := by rcases hop with h | h; exact absurd h h97; exact h
        exact seq_reads k y hyo h97 (fun h => by rcases h with h | h; exact absurd h115.1 h; exact absurd h h115.2) (fun _ z hz => IH z (by have := cnt_kid hz; omega) (E.ok_kids hyo (by omega) z hz).1) (y.cnt - 1) (fun _ => Nat.le_refl _) (fun h => absurd h115 h)
      · have hz' := E.ok_kids hyo (by omega) z hz
        exact SQ z (by have := cnt_kid hz; omega) hz'.1 (by rw [← h97]; exact hz'.2)
    intro r m hr h0 hm
    have hw : wr .i64 (m + 1) = m + 1 := wr64 _ (by omega)
    have h48 : ¬ 48 < m + 1 := by omega
    cases hsx : e.suffix with
    | false =>
      obtain ⟨m', a, b, h⟩ := base_reads k e hok hsx (AL e (Nat.le_refl _) hok) r (m + 1) (fun c hc => (hr c hc).1) (by omega) (by omega)
      refine ⟨m', by omega, by omega, ?_⟩
      simp only [itemN, itemF, hw, if_neg h48]
      rw [h]
      exact sfx_none e r m' hr
    | true =>
      rcases E.ok_ops hok with ⟨h1, _⟩ | ⟨h1, _⟩ | ⟨h1, _⟩ | ⟨h1, hn', x, h2, hx⟩
      · simp [E.suffix, h1] at hsx
      · simp [E.suffix, h1] at hsx
      · simp [E.suffix, h1] at hsx
      · obtain ⟨c, q1, q2, q3⟩ := enc_op (o := e.op) (by omega)
        have hxo := (E.ok_kids hok (by omega) x (by rw [h2]; simp)).1
        have hcx : e.cnt = 1 + x.cnt := by rw [hc, h2]; simp
        have ht : e.txl true = x.txl true ++ [c] := by
          unfold E.txl
          rw [text_eq, if_neg (by omega), if_neg (by omega), if_neg (by omega), app_list, h2, q1, B_list]
          have e1 : joinB ([x].map fun z => z.text (!decide (e.op = 97))) ⟨#[]⟩ = x.text (!decide (e.op = 97)) := ext_list (by simp [joinB, Lib.join_one])
          have e2 : (!decide (e.op = 97)) = true := by simp; omega
          rw [e1, e2]
        obtain ⟨m', a, b, h⟩ := base_reads k x hxo hx (AL x (by omega) hxo) (c :: r) (m + 1) (fun d hd => by simp at hd; subst hd; exact q3) (by omega) (by omega)
        refine ⟨m', by omega, by omega, ?_⟩
        have he : e = .mk e.op ⟨#[]⟩ [x] := by
          obtain ⟨o, nn, ks⟩ := e
          simp only [E.name, E.kids] at hn' h2
          rw [hn', h2]
          rfl
        simp only [itemN, itemF, hw, if_neg h48]
        rw [ht, List.append_assoc]
        show sfx (baseF tl (altR k) ⟨B (x.txl true ++ ([c] ++ r)), false, m + 1⟩).1 _ (baseF tl (altR k) ⟨B (x.txl true ++ ([c] ++ r)), false, m + 1⟩).2 = _
        rw [show ([c] ++ r : List UInt8) = c :: r from rfl, h, sfx_one x e.op c q2 r m']
        conv => rhs; rw [he]
/-- WRITTEN AND READ: as it was. -/
theorem parse_text (e : E) (hr : e.right = true) (hc : e.cnt ≤ 1000) : parse (e.text false) = (e, 0) := by
  have hok : e.ok = true := by simp [E.right] at hr; exact hr.2
  have h24 : e.cnt ≤ 24 := by
    simp [E.right] at hr
    have := many_cnt e (by omega)
    omega
  have IT : ∀ y : E, y.cnt ≤ 24 → y.ok = true → Reads (itemN tl 49) (y.txl true) y y.cnt Cend := fun y hy hyo => item_reads 24 y hy hyo 49 (by omega)
  have SQ : ∀ y : E, y.cnt ≤ 24 → y.ok = true → y.op ≠ 97 → Reads (seqR 49) (y.txl false) y y.cnt Cseq := fun y hy hyo hna =>
    seq_reads 49 y hyo hna (fun _ => IT y hy hyo) (fun h115 z hz => IT z (by have := cnt_kid hz; omega) (E.ok_kids hyo (by omega) z hz).1) y.cnt (fun _ => by omega) (fun _ => Nat.le_refl _)
  have AL := alt_reads 49 e hok e.cnt (fun h => SQ e h24 hok h) (fun h97 z hz => by
    have hz' := E.ok_kids hok (by omega) z hz
    exact SQ z (by have := cnt_kid hz; omega) hz'.1 (by rw [← h97]; exact hz'.2)) (fun _ => by omega)
  obtain ⟨m', _, _, h⟩ := AL [] 0 ⟨⟨fun c hc => by simp at hc, by simp⟩, by simp⟩ (by omega) (by omega)
  have hread : read (e.text false) = (e, ⟨B [], false, m'⟩) := by
    have : e.text false = B (e.txl false ++ []) := by rw [List.append_nil, B_data]
    rw [this]
    exact h
  unfold parse
  rw [hread]
  simp [hr]
end Go.Proofs.D
