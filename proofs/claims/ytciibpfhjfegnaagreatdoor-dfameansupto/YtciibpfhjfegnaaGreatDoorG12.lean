/-
  SETS THAT GO ON BY ONE NAME come round: how soon.
-/
import Derived.Test.YtciibpfhjfegnaaGreatDoorH1
import Derived.Test.YtciibpfhjfegnaaGreatDoorF7
import Derived.Test.YtciibpfhjfegnaaGreatDoorL6
import Derived.Test.YtciibpfhjfegnaaGreatDoorD19
set_option linter.unusedVariables false
set_option linter.unusedSimpArgs false
namespace Go.Proofs.D
open Go Go.Abs
theorem cube_le : ∀ g : Nat, 0 < g → g ^ 3 ≤ 3 ^ g := by
  have key : ∀ k, (k + 3) ^ 3 ≤ 3 ^ (k + 3) := by
    intro k
    induction k with
    | zero => decide
    | succ k ih =>
      have e : 3 ^ (k + 1 + 3) = 3 * 3 ^ (k + 3) := by rw [show k + 1 + 3 = (k + 3) + 1 by omega, Nat.pow_succ]; omega
      have h : (3 * (k + 1 + 3)) ^ 3 ≤ (4 * (k + 3)) ^ 3 := Nat.pow_le_pow_left (by omega) 3
      rw [Nat.mul_pow, Nat.mul_pow] at h
      omega
  intro g hg
  match g, hg with
  | 1, _ => decide
  | 2, _ => decide
  | k + 3, _ => exact key k
theorem least_nat {p : Nat → Prop} (h : ∃ n, p n) : ∃ n, p n ∧ ∀ m, p m → n ≤ m := by
  obtain ⟨n, hn⟩ := h
  induction n using Nat.strongRecOn with
  | _ n ih =>
    by_cases hx : ∃ m, m < n ∧ p m
    · obtain ⟨m, h1, h2⟩ := hx
      exact ih m h1 h2
    · exact ⟨n, hn, fun m hm => Classical.byContradiction fun h => hx ⟨m, by omega, hm⟩⟩
/-- Numbers each of which stands as often as it says, at least: a product of them all, that is small. -/
theorem prod_of : ∀ (n : Nat) (l : List Nat), l.length ≤ n → (∀ g ∈ l, 0 < g ∧ g ≤ (l.filter fun x => decide (x = g)).length) → ∃ P, 0 < P ∧ P ^ 3 ≤ 3 ^ l.length ∧ ∀ g ∈ l, ∃ q, P = g * q := by
  intro n
  induction n with
  | zero =>
    intro l hl _
    have hl0 : l.length = 0 := by omega
    obtain rfl := List.eq_nil_of_length_eq_zero hl0
    exact ⟨1, by decide, by decide, fun g h => by cases h⟩
  | succ n ih =>
    intro l hl h
    cases l with
    | nil => exact ⟨1, by decide, by decide, fun g h => by cases h⟩
    | cons g r =>
      obtain ⟨hg0, hg⟩ := h g (by simp)
      have hsplit : ∀ l : List Nat, l.length = (l.filter fun x => decide (x = g)).length + (l.filter fun x => !decide (x = g)).length := by
        intro l
        induction l with
        | nil => rfl
        | cons x l ih =>
          by_cases hx : x = g
          · simp [hx]; omega
          · simp [hx]; omega
      have hs := hsplit (g :: r)
      have hkeep : ∀ y ∈ ((g :: r).filter fun x => !decide (x = g)), y ∈ g :: r ∧ y ≠ g := fun y hy => by
        have := List.mem_filter.1 hy
        exact ⟨this.1, by simpa using this.2⟩
      have hcnt : ∀ y, y ≠ g → ∀ l : List Nat, ((l.filter fun x => !decide (x = g)).filter fun x => decide (x = y)) = l.filter fun x => decide (x = y) := fun y hy l => by
        rw [List.filter_filter]
        congr 1
        funext x
        by_cases hx : x = y
        · simp [hx, hy]
        · simp [hx]
      generalize hm : ((g :: r).filter fun x => !decide (x = g)) = m at hs hkeep hcnt
      obtain ⟨P, h0, h1, h2⟩ := ih m (by omega) fun y hy => by
        obtain ⟨a, b⟩ := hkeep y hy
        have := h y a
        rw [← hm, hcnt y b (g :: r)]
        exact this
      refine ⟨g * P, Nat.mul_pos hg0 h0, ?_, fun y hy => ?_⟩
      · rw [Nat.mul_pow]
        refine Nat.le_trans (Nat.mul_le_mul (cube_le g hg0) h1) ?_
        rw [← Nat.pow_add]
        exact Nat.pow_le_pow_right (by decide) (by omega)
      · by_cases hyg : y = g
        · exact ⟨P, by rw [hyg]⟩
        · obtain ⟨q, hq⟩ := h2 y (by rw [← hm]; exact List.mem_filter.2 ⟨hy, by simp [hyg]⟩)
          exact ⟨g * q, by rw [hq, ← Nat.mul_assoc, Nat.mul_comm g y, Nat.mul_assoc]⟩
section
variable {α : Type} (E : α → α → Prop)
/-- From one to another one in so many steps. -/
def Walk : Nat → α → α → Prop
  | 0, p, q => p = q
  | m + 1, p, q => ∃ r, Walk m p r ∧ E r q
theorem Walk.trans {p q r : α} {m : Nat} (h : Walk E m p q) : ∀ {n : Nat}, Walk E n q r → Walk E (m + n) p r := by
  intro n
  induction n generalizing r with
  | zero => intro h'; have : q = r := h'; exact this ▸ h
  | succ n ih => rintro ⟨s, h1, h2⟩; exact ⟨s, ih h1, h2⟩
theorem Walk.split {p q : α} : ∀ {m n : Nat}, Walk E (m + n) p q → ∃ r, Walk E m p r ∧ Walk E n r q := by
  intro m n
  induction n generalizing q with
  | zero => exact fun h => ⟨q, h, rfl⟩
  | succ n ih =>
    rintro ⟨s, h1, h2⟩
    obtain ⟨r, a, b⟩ := ih h1
    exact ⟨r, a, s, b, h2⟩
variable (S : Nat → α → Prop) (hS : ∀ k x, S (k + 1) x ↔ ∃ p, S k p ∧ E p x)
include hS
theorem walk_on {k m : Nat} {p q : α} (hp : S k p) (h : Walk E m p q) : S (k + m) q := by
  induction m generalizing q with
  | zero => have : p = q := h; exact this ▸ hp
  | succ m ih =>
    obtain ⟨r, h1, h2⟩ := h
    exact (hS _ _).2 ⟨r, ih h1, h2⟩
theorem again_on {i j : Nat} (he : S i = S j) (d : Nat) : S (i + d) = S (j + d) := by
  induction d with
  | zero => exact he
  | succ d ih =>
    funext x
    apply propext
    have e1 := hS (i + d) x
    have e2 := hS (j + d) x
    rw [ih] at e1
    exact e1.trans e2.symm
open Classical in
/-- THEY COME ROUND, in a small number of steps, from some turn on. -/
theorem comes_round (V : List α) (hV : ∀ k x, S (k + 1) x → x ∈ V) : ∃ i P, i ≤ 2 ^ V.length + 1 ∧ 0 < P ∧ P ^ 3 ≤ 3 ^ V.length ∧ ∀ k, i ≤ k → S (k + P) = S k := by
  -- two of them are one
  obtain ⟨i, l, hi1, hil, hl, he⟩ : ∃ i l, 1 ≤ i ∧ i ≤ 2 ^ V.length + 1 ∧ 0 < l ∧ S (i + l) = S i := by
    refine Classical.byContradiction fun hno => ?_
    have hnd : ((List.range (2 ^ V.length + 1)).map fun k => S (k + 1)).Nodup := nodup_map _ _ List.nodup_range fun x hx y hy e => by
      have hx := List.mem_range.1 hx
      have hy := List.mem_range.1 hy
      rcases Nat.lt_trichotomy x y with g | g | g
      · exact absurd ⟨x + 1, y - x, by omega, by omega, by omega, by rw [show x + 1 + (y - x) = y + 1 by omega]; exact e.symm⟩ hno
      · exact g
      · exact absurd ⟨y + 1, x - y, by omega, by omega, by omega, by rw [show y + 1 + (x - y) = x + 1 by omega]; exact e⟩ hno
    have := sets_len V _ hnd fun T hT r hr => by
      obtain ⟨k, _, rfl⟩ := List.mem_map.1 hT
      exact hV k r hr
    simp only [List.length_map, List.length_range] at this
    omega
  have per : ∀ k, i ≤ k → ∀ n, S (k + l * n) = S k := by
    intro k hk n
    induction n with
    | zero => rfl
    | succ n ih =>
      have := again_on E S hS (i := i + l) (j := i) he (k - i + l * n)
      rw [show i + l + (k - i + l * n) = k + l * (n + 1) by rw [Nat.mul_succ]; omega, show i + (k - i + l * n) = k + l * n by omega] at this
      rw [this, ih]
  -- by which numbers one of them comes back
  let K : α → Nat → Prop := fun q m => ∀ k, i ≤ k → S k q → S (k + m) q
  have Kn : ∀ q m, K q m → ∀ n k, i ≤ k → S k q → S (k + m * n) q := by
    intro q m h n
    induction n with
    | zero => intro k _ hq; exact hq
    | succ n ih =>
      intro k hk hq
      rw [show k + m * (n + 1) = (k + m * n) + m by rw [Nat.mul_succ]; omega]
      exact h _ (by omega) (ih k hk hq)
  have Kback : ∀ q m, K q m → ∀ k, i ≤ k → S (k + m) q → S k q := by
    intro q m h k hk hq
    have := Kn q m h (l - 1) (k + m) (by omega) hq
    rw [show k + m + m * (l - 1) = k + l * m by rw [Nat.mul_comm l m]; have : m * l = m * (l - 1) + m := by rw [← Nat.mul_succ]; congr 1; omega
                                                omega, per k hk m] at this
    exact this
  have Kdiff : ∀ q m m', m ≤ m' → K q m → K q m' → K q (m' - m) := by
    intro q m m' hm h h' k hk hq
    have := h' k hk hq
    rw [show k + m' = k + (m' - m) + m by omega] at this
    exact Kback q m h _ (by omega) this
  have Kl : ∀ q, K q l := fun q k hk hq => by have := per k hk 1; rw [Nat.mul_one] at this; rw [this]; exact hq
  have Kcyc : ∀ q c, Walk E c q q → K q c := fun q c h k hk hq => walk_on E S hS hq h
  have gex : ∀ q, ∃ n, (0 < n ∧ K q n) ∧ ∀ m, (0 < m ∧ K q m) → n ≤ m := fun q => least_nat ⟨l, hl, Kl q⟩
  let g : α → Nat := fun q => (gex q).choose
  have gs : ∀ q, 0 < g q ∧ K q (g q) := fun q => (gex q).choose_spec.1
  have gm : ∀ q m, 0 < m → K q m → g q ≤ m := fun q m h0 h => (gex q).choose_spec.2 m ⟨h0, h⟩
  let Cy : α → Prop := fun q => (∃ c, 0 < c ∧ Walk E c q q) ∧ ∃ k, i ≤ k ∧ S k q
  -- those that come back alike are as many, at least
  have hcount : ∀ q, Cy q → g q ≤ (V.filter fun v => decide (Cy v ∧ g v = g q)).length := by
    rintro q ⟨⟨c, hc, hw⟩, k0, hk0, hq0⟩
    have hgc := gm q c hc (Kcyc q c hw)
    have hv : ∀ t, ∃ v, t ≤ c → Walk E t q v ∧ Walk E (c - t) v q := fun t => by
      by_cases ht : t ≤ c
      · have hw' := hw
        rw [show c = t + (c - t) by omega] at hw'
        obtain ⟨v, a, b⟩ := Walk.split E hw'
        exact ⟨v, fun _ => ⟨a, b⟩⟩
      · exact ⟨q, fun h => absurd h ht⟩
    let v : Nat → α := fun t => (hv t).choose
    have hvs : ∀ t, t ≤ c → Walk E t q (v t) ∧ Walk E (c - t) (v t) q := fun t => (hv t).choose_spec
    have hloop : ∀ t, t ≤ c → Walk E c (v t) (v t) := fun t ht => by
      have := Walk.trans E (hvs t ht).2 (hvs t ht).1
      rwa [show c - t + t = c by omega] at this
    have hKv : ∀ t, t ≤ c → ∀ m, K q m ↔ K (v t) m := by
      intro t ht m
      constructor
      · intro h k hk hq
        have h1 := walk_on E S hS hq (hvs t ht).2
        have h2 := h _ (by omega) h1
        have h3 := walk_on E S hS h2 (hvs t ht).1
        rw [show k + (c - t) + m + t = k + m + c by omega] at h3
        exact Kback _ _ (Kcyc _ _ (hloop t ht)) _ (by omega) h3
      · intro h k hk hq
        have h1 := walk_on E S hS hq (hvs t ht).1
        have h2 := h _ (by omega) h1
        have h3 := walk_on E S hS h2 (hvs t ht).2
        rw [show k + t + m + (c - t) = k + m + c by omega] at h3
        exact Kback _ _ (Kcyc _ _ hw) _ (by omega) h3
    have hgv : ∀ t, t ≤ c → g (v t) = g q := fun t ht => by
      refine Nat.le_antisymm (gm _ _ (gs q).1 ((hKv t ht _).1 (gs q).2)) (gm _ _ (gs (v t)).1 ((hKv t ht _).2 (gs (v t)).2))
    have hnd : ((List.range (g q)).map v).Nodup := nodup_map _ _ List.nodup_range fun x hx y hy e => by
      have hx := List.mem_range.1 hx
      have hy := List.mem_range.1 hy
      have key : ∀ x y, x < y → y < g q → v x = v y → False := fun x y hxy hyg e => by
        have h1 := (hvs x (by omega)).1
        have h2 := (hvs y (by omega)).2
        rw [← e] at h2
        have h3 := Kcyc q _ (Walk.trans E h1 h2)
        have h4 := Kdiff q _ _ (by omega : x + (c - y) ≤ c) h3 (Kcyc q c hw)
        have := gm q (c - (x + (c - y))) (by omega) h4
        omega
      rcases Nat.lt_trichotomy x y with h | h | h
      · exact (key x y h hy e).elim
      · exact h
      · exact (key y x h hx e.symm).elim
    have := nodup_sub_len _ (V.filter fun v => decide (Cy v ∧ g v = g q)) hnd fun x hx => by
      obtain ⟨t, ht, rfl⟩ := List.mem_map.1 hx
      have ht := List.mem_range.1 ht
      have hact := walk_on E S hS hq0 (hvs t (by omega)).1
      refine List.mem_filter.2 ⟨?_, decide_eq_true ⟨⟨⟨c, hc, hloop t (by omega)⟩, k0 + t, by omega, hact⟩, hgv t (by omega)⟩⟩
      obtain ⟨n, hn⟩ : ∃ n, k0 + t = n + 1 := ⟨k0 + t - 1, by omega⟩
      rw [hn] at hact
      exact hV n _ hact
    simpa using this
  obtain ⟨P, hP0, hP3, hPd⟩ := prod_of _ ((V.filter fun v => decide (Cy v)).map g) (Nat.le_refl _) fun y hy => by
    obtain ⟨q, hq, rfl⟩ := List.mem_map.1 hy
    have hcy := of_decide_eq_true (List.mem_filter.1 hq).2
    refine ⟨(gs q).1, ?_⟩
    have h1 := hcount q hcy
    have e : (((V.filter fun v => decide (Cy v)).map g).filter fun x => decide (x = g q)).length = (V.filter fun v => decide (Cy v ∧ g v = g q)).length := by
      rw [List.filter_map, List.length_map, List.filter_filter]
      congr 2
      funext v
      simp [Bool.and_comm]
    rw [e]
    exact h1
  have hKP : ∀ q, q ∈ V → Cy q → K q P := fun q hqV hq => by
    obtain ⟨n, hn⟩ := hPd (g q) (List.mem_map.2 ⟨q, List.mem_filter.2 ⟨hqV, decide_eq_true hq⟩, rfl⟩)
    intro k hk hqk
    rw [hn]
    exact Kn q _ (gs q).2 n k hk hqk
  have hsub : ∀ k, i ≤ k → ∀ p, S k p → S (k + P) p := by
    intro k hk p hp
    have hbig : i + V.length ≤ k + l * (V.length + 1) := by
      have : V.length + 1 ≤ l * (V.length + 1) := Nat.le_mul_of_pos_left _ hl
      omega
    rw [← per k hk (V.length + 1)] at hp
    obtain ⟨b, hb⟩ : ∃ b, k + l * (V.length + 1) = b + V.length := ⟨k + l * (V.length + 1) - V.length, by omega⟩
    rw [hb] at hp
    have hbi : i ≤ b := by omega
    -- a walk, vertex by vertex
    have walk : ∃ f : Nat → α, f V.length = p ∧ (∀ t, t ≤ V.length → S (b + t) (f t)) ∧ ∀ t, t < V.length → E (f t) (f (t + 1)) := by
      have gen : ∀ n p, S (b + n) p → ∃ f : Nat → α, f n = p ∧ (∀ t, t ≤ n → S (b + t) (f t)) ∧ ∀ t, t < n → E (f t) (f (t + 1)) := by
        intro n
        induction n with
        | zero => exact fun p hp => ⟨fun _ => p, rfl, fun t ht => by rw [show t = 0 by omega]; exact hp, fun t ht => by omega⟩
        | succ n ih =>
          intro p hp
          obtain ⟨r, h1, h2⟩ := (hS (b + n) p).1 hp
          obtain ⟨f, a1, a2, a3⟩ := ih r h1
          have hno1 : ¬ n + 1 ≤ n := by omega
          refine ⟨fun t => if t ≤ n then f t else p, (by simp only [hno1, if_false]), fun t ht => ?_, fun t ht => ?_⟩
          · by_cases h : t ≤ n
            · simp only [h, if_true]; exact a2 t h
            · simp only [h, if_false]; rw [show t = n + 1 by omega]; exact hp
          · by_cases h : t + 1 ≤ n
            · simp only [show t ≤ n by omega, h, if_true]; exact a3 t (by omega)
            · have : t = n := by omega
              subst this
              simp only [Nat.le_refl, if_true, h, if_false]
              rw [a1]; exact h2
      exact gen V.length p hp
    obtain ⟨f, f1, f2, f3⟩ := walk
    have fw : ∀ s t, s ≤ t → t ≤ V.length → Walk E (t - s) (f s) (f t) := by
      intro s t hst ht
      obtain ⟨d, rfl⟩ : ∃ d, t = s + d := ⟨t - s, by omega⟩
      rw [show s + d - s = d by omega]
      clear hst
      induction d with
      | zero => exact rfl
      | succ d ih => exact ⟨f (s + d), ih (by omega), f3 (s + d) (by omega)⟩
    obtain ⟨s, t, hst, ht, hf⟩ : ∃ s t, s < t ∧ t ≤ V.length ∧ f s = f t := by
      refine Classical.byContradiction fun hno => ?_
      have hnd : ((List.range (V.length + 1)).map f).Nodup := nodup_map _ _ List.nodup_range fun x hx y hy e => by
        have hx := List.mem_range.1 hx
        have hy := List.mem_range.1 hy
        rcases Nat.lt_trichotomy x y with g | g | g
        · exact absurd ⟨x, y, g, by omega, e⟩ hno
        · exact g
        · exact absurd ⟨y, x, g, by omega, e.symm⟩ hno
      have := nodup_sub_len _ V hnd fun x hx => by
        obtain ⟨t, ht, rfl⟩ := List.mem_map.1 hx
        have ht := List.mem_range.1 ht
        have := f2 t (by omega)
        obtain ⟨n, hn⟩ : ∃ n, b + t = n + 1 := ⟨b + t - 1, by omega⟩
        rw [hn] at this
        exact hV n _ this
      simp only [List.length_map, List.length_range] at this
      omega
    have hfs := f2 s (by omega)
    have hsV : f s ∈ V := by
      obtain ⟨n, hn⟩ : ∃ n, b + s = n + 1 := ⟨b + s - 1, by omega⟩
      have := hfs
      rw [hn] at this
      exact hV n _ this
    have hcy : Cy (f s) := ⟨⟨t - s, by omega, by have := fw s t (by omega) ht; rwa [← hf] at this⟩, b + s, by omega, hfs⟩
    have h1 := hKP _ hsV hcy (b + s) (by omega) hfs
    have h2 := walk_on E S hS h1 (fw s V.length (by omega) (Nat.le_refl _))
    rw [f1, show b + s + P + (V.length - s) = (k + P) + l * (V.length + 1) by omega] at h2
    rwa [per (k + P) (by omega)] at h2
  refine ⟨i, P, hil, hP0, ?_, fun k hk => ?_⟩
  · refine Nat.le_trans hP3 (Nat.pow_le_pow_right (by decide) ?_)
    rw [List.length_map]
    exact List.length_filter_le _ _
  · funext p
    apply propext
    constructor
    · intro h
      have many : ∀ n, S (k + P) p → S (k + P + P * n) p := by
        intro n hp
        induction n with
        | zero => exact hp
        | succ n ih =>
          rw [show k + P + P * (n + 1) = (k + P + P * n) + P by rw [Nat.mul_succ]; omega]
          exact hsub _ (by omega) p ih
      have := many (l - 1) h
      rw [show k + P + P * (l - 1) = k + l * P by rw [Nat.mul_comm l P]; have : P * l = P * (l - 1) + P := by rw [← Nat.mul_succ]; congr 1; omega
                                                  omega, per k hk] at this
      exact this
    · exact hsub k hk p
end
end Go.Proofs.D
/-
  THE PLACES OF AN EXPRESSION mean what it means.
-/
set_option linter.unusedVariables false
set_option linter.unusedSimpArgs false
namespace Go.Proofs.D
open Go Go.Abs
theorem nodup_rises {l : List Nat} (h : Rises l) : l.Nodup := h.imp fun h => Nat.ne_of_lt h
theorem More.trans {P Q R : Pl} (h : More P Q) (h' : More Q R) : More P R := by
  obtain ⟨m, e⟩ := h.names
  obtain ⟨m', e'⟩ := h'.names
  refine ⟨⟨m ++ m', by rw [e', e, List.append_assoc]⟩, fun x hx => ?_⟩
  rw [h'.behind x (by rw [e, List.length_append]; omega), h.behind x hx]
end Go.Proofs.D
/-
  HOW MANY PAIRS OF STATES TWO EXPRESSIONS HAVE, at most.
-/
set_option linter.unusedVariables false
set_option linter.unusedSimpArgs false
namespace Go.Proofs.D
open Go Go.Abs
/-- What is left behind a row. -/
def der (S : Stt) (w : Row) : Stt := w.foldl (fun S a => stepS a S) S
theorem der_append (S : Stt) (u v : Row) : der S (u ++ v) = der (der S u) v := by simp [der]
theorem der_snoc (S : Stt) (u : Row) (y : ByteArray) : der S (u ++ [y]) = stepS y (der S u) := by simp [der]
theorem der_sub {e : E} {S : Stt} (h : ∀ r, S r → r ∈ pdAll e) : ∀ (w : Row), ∀ r, der S w r → r ∈ pdAll e := by
  intro w
  induction w generalizing S with
  | nil => exact h
  | cons a w ih =>
    refine ih (S := stepS a S) fun x hx => ?_
    obtain ⟨r, hr, hx⟩ := hx
    obtain ⟨h1, h2⟩ := pdAll_step a r (h r hr) x hx
    simp only [pdAll, List.mem_cons, List.mem_flatMap]
    exact .inr ⟨a, h2, h1⟩
theorem one_sub (e : E) : ∀ r, one e r → r ∈ pdAll e := fun r h => by rw [show r = [e] from h]; simp [pdAll]
theorem der_last (e : E) (u : Row) (y : ByteArray) : ∀ r, der (one e) (u ++ [y]) r → r ∈ e.pdy y := by
  intro x hx
  rw [der_snoc] at hx
  obtain ⟨r, hr, hx⟩ := hx
  exact (pdAll_step y r (der_sub (one_sub e) u r hr) x hx).1
theorem SL_step' {e : E} (hok : e.ok = true) {S : Stt} (h : ∀ r, S r → r ∈ pdAll e) (a : ByteArray) (w : Row) : SL S (a :: w) ↔ SL (stepS a S) w := by
  constructor
  · rintro ⟨r, hr, hw⟩
    obtain ⟨x, hx, hxw⟩ := (stepR_L a r (fun k hk => ((pdAll_ok hok r (h r hr)).2 k hk).1) w).1 hw
    exact ⟨x, ⟨r, hr, hx⟩, hxw⟩
  · rintro ⟨x, ⟨r, hr, hx⟩, hxw⟩
    exact ⟨r, hr, (stepR_L a r (fun k hk => ((pdAll_ok hok r (h r hr)).2 k hk).1) w).2 ⟨x, hx, hxw⟩⟩
theorem der_L {e : E} (hok : e.ok = true) (w v : Row) : SL (der (one e) w) v ↔ e.L (w ++ v) := by
  have key : ∀ (w : Row) (S : Stt), (∀ r, S r → r ∈ pdAll e) → (SL (der S w) v ↔ SL S (w ++ v)) := by
    intro w
    induction w with
    | nil => intro S _; exact Iff.rfl
    | cons a w ih =>
      intro S hS
      have h1 := der_sub hS [a]
      rw [show der S (a :: w) = der (stepS a S) w from rfl, ih (stepS a S) h1, List.cons_append]
      exact (SL_step' hok hS a (w ++ v)).symm
  rw [key w _ (one_sub e)]
  unfold SL one
  constructor
  · rintro ⟨r, rfl, h⟩; exact (restL_one e _).1 h
  · exact fun h => ⟨[e], rfl, (restL_one e _).2 h⟩
/-! ### all sets of some things -/
def subs {α : Type} (U : List α) : List (α → Prop) := (bools U.length).map fun bs => fun r => ∃ i : Nat, U[i]? = some r ∧ bs[i]? = some true
theorem subs_len {α : Type} (U : List α) : (subs U).length = 2 ^ U.length := by rw [subs, List.length_map, bools_len]
open Classical in
theorem subs_mem {α : Type} (U : List α) (S : α → Prop) (h : ∀ r, S r → r ∈ U) : S ∈ subs U := by
  refine List.mem_map.2 ⟨U.map fun r => decide (S r), by have := bools_mem (U.map fun r => decide (S r)); rwa [List.length_map] at this, ?_⟩
  funext r
  apply propext
  constructor
  · rintro ⟨i, h1, h2⟩
    rw [List.getElem?_map, h1] at h2
    simpa using h2
  · intro hr
    obtain ⟨i, hi⟩ := List.getElem?_of_mem (h r hr)
    exact ⟨i, hi, by rw [List.getElem?_map, hi]; simp [hr]⟩
def subs2 (U V : List Rest) : List (Stt × Stt) := (subs U).flatMap fun S => (subs V).map fun T => (S, T)
theorem flat_const {α β : Type} (f : α → List β) (n : Nat) : ∀ l : List α, (∀ x ∈ l, (f x).length ≤ n) → (l.flatMap f).length ≤ l.length * n
  | [], _ => by simp
  | x :: l, h => by
    have h1 := h x (by simp)
    have h2 := flat_const f n l fun y hy => h y (by simp [hy])
    simp only [List.flatMap_cons, List.length_append, List.length_cons, Nat.succ_mul]
    omega
theorem subs2_len (U V : List Rest) : (subs2 U V).length ≤ 2 ^ (U.length + V.length) := by
  have := flat_const (fun S => (subs V).map fun T => (S, T)) (2 ^ V.length) (subs U) fun S _ => by rw [List.length_map, subs_len]; exact Nat.le_refl _
  rw [subs_len, ← Nat.pow_add] at this
  exact this
theorem subs2_mem (U V : List Rest) {S T : Stt} (h : ∀ r, S r → r ∈ U) (h' : ∀ r, T r → r ∈ V) : (S, T) ∈ subs2 U V :=
  List.mem_flatMap.2 ⟨S, subs_mem U S h, List.mem_map.2 ⟨T, subs_mem V T h', rfl⟩⟩
section
variable (e f : E)
def cc (y : ByteArray) : Nat := (e.pdy y).length + (f.pdy y).length
open Classical in
noncomputable def allN : List ByteArray := e.names ++ f.names.filter fun y => !decide (y ∈ e.names)
open Classical in
theorem allN_nodup : (allN e f).Nodup := List.nodup_append.2 ⟨names_nodup e, (names_nodup f).filter _, fun a ha b hb => by
  have := (List.mem_filter.1 hb).2
  simp at this
  exact fun h => this (h ▸ ha)⟩
noncomputable def zs : List ByteArray := (allN e f).filter fun y => !decide (cc e f y = 0)
theorem leaves23 {e : E} (hc : e.cnt ≤ 24) : e.leaves ≤ 23 := by
  have h2 := leaves_le e
  by_cases h : e.op = 110
  · have : e.leaves = 1 := by rw [leaves_eq, if_pos h]
    omega
  · rcases h2.2 with h2 | h2 <;> omega
variable {e f} (he : e.cnt ≤ 24) (hf : f.cnt ≤ 24)
include he hf
theorem cc_sum (ys : List ByteArray) (h : ys.Nodup) : (ys.map (cc e f)).sum ≤ 46 := by
  have h1 := pdy_len ys h e
  have h2 := pdy_len ys h f
  have h3 := leaves23 he
  have h4 := leaves23 hf
  have : (ys.map (cc e f)).sum = (ys.map fun y => (e.pdy y).length).sum + (ys.map fun y => (f.pdy y).length).sum := sum_add _ _ ys
  omega
theorem zs_len : (zs e f).length ≤ 46 := by
  have h := cc_sum he hf (zs e f) ((allN_nodup e f).filter _)
  have : ∀ l : List ByteArray, (∀ y ∈ l, cc e f y ≠ 0) → l.length ≤ (l.map (cc e f)).sum := by
    intro l
    induction l with
    | nil => intro _; simp
    | cons y l ih =>
      intro h
      have h1 := h y (by simp)
      have h2 := ih fun z hz => h z (by simp [hz])
      simp
      omega
  have := this (zs e f) fun y hy => by simpa using (List.mem_filter.1 hy).2
  omega
end
open Classical in
theorem zs_mem {e f : E} {y : ByteArray} (h : cc e f y ≠ 0) : y ∈ zs e f := by
  refine List.mem_filter.2 ⟨?_, by simpa using h⟩
  unfold cc at h
  by_cases h1 : (e.pdy y).length = 0
  · have h2 : (f.pdy y).length ≠ 0 := by omega
    obtain ⟨r, hr⟩ := List.exists_mem_of_length_pos (by omega : 0 < (f.pdy y).length)
    have := (names_mem f y).2 (pdy_occ y f r hr)
    by_cases h3 : y ∈ e.names
    · exact List.mem_append.2 (.inl h3)
    · exact List.mem_append.2 (.inr (List.mem_filter.2 ⟨this, by simp [h3]⟩))
  · obtain ⟨r, hr⟩ := List.exists_mem_of_length_pos (by omega : 0 < (e.pdy y).length)
    exact List.mem_append.2 (.inl ((names_mem e y).2 (pdy_occ y e r hr)))
def pairOf (e f : E) (w : Row) : Stt × Stt := (der (one e) w, der (one f) w)
def void : Stt := fun _ => False
theorem void_of {S : Stt} (h : ∀ r, S r → r ∈ ([] : List Rest)) : S = void := by
  funext r
  apply propext
  exact ⟨fun q => (by cases h r q), fun q => q.elim⟩
/-- Where a row that ends with y leads. -/
theorem pair_last (e f : E) (u : Row) (y : ByteArray) : pairOf e f (u ++ [y]) = (void, void) ∨ (y ∈ zs e f ∧ pairOf e f (u ++ [y]) ∈ subs2 (e.pdy y) (f.pdy y)) := by
  have h1 := der_last e u y
  have h2 := der_last f u y
  by_cases h : cc e f y = 0
  · left
    unfold cc at h
    have e1 : e.pdy y = [] := List.eq_nil_of_length_eq_zero (by omega)
    have e2 : f.pdy y = [] := List.eq_nil_of_length_eq_zero (by omega)
    rw [e1] at h1
    rw [e2] at h2
    unfold pairOf
    rw [void_of h1, void_of h2]
  · exact .inr ⟨zs_mem h, subs2_mem _ _ h1 h2⟩
theorem rep_split (x : ByteArray) : ∀ (n : Nat) (w : Row), w.length = n → ∃ u k, w = u ++ List.replicate k x ∧ (u = [] ∨ ∃ v y, u = v ++ [y] ∧ y ≠ x) := by
  intro n
  induction n with
  | zero => exact fun w hw => ⟨[], 0, by rw [List.eq_nil_of_length_eq_zero hw]; rfl, .inl rfl⟩
  | succ n ih =>
    intro w hw
    obtain ⟨v, y, rfl⟩ : ∃ v y, w = v ++ [y] := ⟨w.dropLast, w.getLast (by intro e; rw [e] at hw; cases hw), (List.dropLast_concat_getLast _).symm⟩
    by_cases hy : y = x
    · subst hy
      obtain ⟨u, k, e1, e2⟩ := ih v (by simpa using hw)
      exact ⟨u, k + 1, by rw [e1, List.append_assoc, List.replicate_succ'], e2⟩
    · exact ⟨v ++ [y], 0, by simp, .inr ⟨v, y, rfl, hy⟩⟩
def OB : Nat := 29388610
theorem pow46 : (3 : Nat) ^ 46 < 21000000 ^ 3 := by decide
/-- Going on by one name alone one comes round. -/
theorem orbit_short {e f : E} (he : e.cnt ≤ 24) (hf : f.cnt ≤ 24) (x : ByteArray) (S T : Stt) (hS : ∀ r, S r → r ∈ pdAll e) (hT : ∀ r, T r → r ∈ pdAll f) (k : Nat) : ∃ k', k' < OB ∧ der S (List.replicate k x) = der S (List.replicate k' x) ∧ der T (List.replicate k x) = der T (List.replicate k' x) := by
  have one' : ∀ (e : E) (S : Stt), (∀ r, S r → r ∈ pdAll e) → e.cnt ≤ 24 → ∃ i P, i ≤ 8388609 ∧ 0 < P ∧ P ^ 3 ≤ 3 ^ (e.pdy x).length ∧ ∀ k, i ≤ k → der S (List.replicate (k + P) x) = der S (List.replicate k x) := by
    intro e S hS he
    obtain ⟨i, P, h1, h2, h3, h4⟩ := comes_round (fun p q => q ∈ stepR x p) (fun k => der S (List.replicate k x)) (fun k r => by
      rw [List.replicate_succ', der_snoc]
      exact Iff.rfl) (e.pdy x) (fun k r hr => by
      rw [List.replicate_succ', der_snoc] at hr
      obtain ⟨q, hq, hr⟩ := hr
      exact (pdAll_step x q (der_sub hS _ q hq) r hr).1)
    have hl : (e.pdy x).length ≤ 23 := by
      have := pdy_len [x] (by simp) e
      have := leaves23 he
      simp at *
      omega
    have : 2 ^ (e.pdy x).length ≤ 2 ^ 23 := Nat.pow_le_pow_right (by decide) hl
    exact ⟨i, P, by have : (2 : Nat) ^ 23 = 8388608 := by decide
                    omega, h2, h3, h4⟩
  obtain ⟨i, P, a1, a2, a3, a4⟩ := one' e S hS he
  obtain ⟨j, Q, b1, b2, b3, b4⟩ := one' f T hT hf
  have hPQ : P * Q < 21000000 := by
    refine Classical.byContradiction fun hge => ?_
    have h1 : 21000000 ^ 3 ≤ (P * Q) ^ 3 := Nat.pow_le_pow_left (by omega) 3
    rw [Nat.mul_pow] at h1
    have h2 : P ^ 3 * Q ^ 3 ≤ 3 ^ (e.pdy x).length * 3 ^ (f.pdy x).length := Nat.mul_le_mul a3 b3
    rw [← Nat.pow_add] at h2
    have h3 := cc_sum he hf [x] (by simp)
    have h4 : 3 ^ ((e.pdy x).length + (f.pdy x).length) ≤ 3 ^ 46 := Nat.pow_le_pow_right (by decide) (by simpa [cc] using h3)
    have := pow46
    omega
  have many : ∀ (S : Stt) (i P : Nat), (∀ k, i ≤ k → der S (List.replicate (k + P) x) = der S (List.replicate k x)) → ∀ n k, i ≤ k → der S (List.replicate (k + P * n) x) = der S (List.replicate k x) := by
    intro S i P h n
    induction n with
    | zero => intro k _; rfl
    | succ n ih =>
      intro k hk
      rw [show k + P * (n + 1) = (k + P * n) + P by rw [Nat.mul_succ]; omega, h _ (by omega), ih k hk]
  have h0 : 0 < P * Q := Nat.mul_pos a2 b2
  have key : ∀ n k, k ≤ n → ∃ k', k' < OB ∧ der S (List.replicate k x) = der S (List.replicate k' x) ∧ der T (List.replicate k x) = der T (List.replicate k' x) := by
    intro n
    induction n with
    | zero => exact fun k hk => ⟨k, by unfold OB; omega, rfl, rfl⟩
    | succ n ih =>
      intro k hk
      by_cases hlt : k < OB
      · exact ⟨k, hlt, rfl, rfl⟩
      · have hO : OB = 29388610 := rfl
        obtain ⟨m, rfl⟩ : ∃ m, k = m + P * Q := ⟨k - P * Q, by omega⟩
        obtain ⟨k', h1, h2, h3⟩ := ih m (by omega)
        refine ⟨k', h1, ?_, ?_⟩
        · rw [many S i P a4 Q m (by omega), h2]
        · rw [Nat.mul_comm P Q, many T j Q b4 P m (by omega), h3]
  exact key k k (Nat.le_refl _)
def PB : Nat := 3200000000000
theorem pairs_len {e f : E} (he : e.cnt ≤ 24) (hf : f.cnt ≤ 24) (ps : List (Stt × Stt)) (hn : ps.Nodup) (hp : ∀ p ∈ ps, ∃ w, p = pairOf e f w) : ps.length ≤ PB := by
  have hP : PB = 3200000000000 := rfl
  by_cases hx : ∃ x ∈ zs e f, 37 ≤ cc e f x
  · obtain ⟨x, hxz, hx37⟩ := hx
    let ys := (zs e f).filter fun y => !decide (y = x)
    have hys : ∀ y ∈ ys, y ∈ zs e f ∧ y ≠ x := fun y hy => by
      have := List.mem_filter.1 hy
      exact ⟨this.1, by simpa using this.2⟩
    have hsum : (ys.map (cc e f)).sum ≤ 9 := by
      have := cc_sum he hf (x :: ys) (List.nodup_cons.2 ⟨fun h => (hys x h).2 rfl, (((allN_nodup e f).filter _).filter _)⟩)
      simp at this
      omega
    have hpos : ∀ l : List ByteArray, (∀ y ∈ l, cc e f y ≠ 0) → l.length ≤ (l.map (cc e f)).sum ∧ ∀ y ∈ l, cc e f y ≤ (l.map (cc e f)).sum := by
      intro l
      induction l with
      | nil => intro _; simp
      | cons y l ih =>
        intro h
        have h1 := h y (by simp)
        have h2 := ih fun z hz => h z (by simp [hz])
        simp only [List.length_cons, List.map_cons, List.sum_cons]
        refine ⟨by omega, fun z hz => ?_⟩
        rcases List.mem_cons.1 hz with rfl | hz
        · omega
        · have := h2.2 z hz; omega
    obtain ⟨hl, hc⟩ := hpos ys fun y hy => by simpa using (List.mem_filter.1 (hys y hy).1).2
    have hflat : (ys.flatMap fun y => subs2 (e.pdy y) (f.pdy y)).length ≤ ys.length * 512 := flat_const _ 512 ys fun y hy => by
      have h1 := subs2_len (e.pdy y) (f.pdy y)
      have h2 : 2 ^ ((e.pdy y).length + (f.pdy y).length) ≤ 2 ^ 9 := Nat.pow_le_pow_right (by decide) (by
        have := hc y hy
        have e1 : cc e f y = (e.pdy y).length + (f.pdy y).length := rfl
        omega)
      have h3 : (2 : Nat) ^ 9 = 512 := by decide
      omega
    let st : List (Stt × Stt) := (one e, one f) :: (void, void) :: ys.flatMap fun y => subs2 (e.pdy y) (f.pdy y)
    have hst : st.length ≤ 4610 := by
      simp only [st, List.length_cons]
      omega
    have hall := nodup_sub_len ps (st.flatMap fun s => (List.range OB).map fun k => (der s.1 (List.replicate k x), der s.2 (List.replicate k x))) hn fun p hpm => by
      obtain ⟨w, rfl⟩ := hp p hpm
      obtain ⟨u, k, rfl, hu⟩ := rep_split x w.length w rfl
      obtain ⟨k', h1, h2, h3⟩ := orbit_short he hf x (der (one e) u) (der (one f) u) (der_sub (one_sub e) u) (der_sub (one_sub f) u) k
      refine List.mem_flatMap.2 ⟨pairOf e f u, ?_, List.mem_map.2 ⟨k', List.mem_range.2 h1, ?_⟩⟩
      · rcases hu with rfl | ⟨v, y, rfl, hy⟩
        · exact List.mem_cons.2 (.inl rfl)
        · rcases pair_last e f v y with h | ⟨h, h'⟩
          · rw [h]; simp [st]
          · simp only [st, List.mem_cons, List.mem_flatMap]
            exact .inr (.inr ⟨y, List.mem_filter.2 ⟨h, by simp [hy]⟩, h'⟩)
      · unfold pairOf
        rw [der_append, der_append, h2, h3]
    have h2 := flat_const (fun s : Stt × Stt => (List.range OB).map fun k => (der s.1 (List.replicate k x), der s.2 (List.replicate k x))) OB st fun s _ => by simp
    have h3 : st.length * OB ≤ 4610 * OB := Nat.mul_le_mul_right _ hst
    have h4 : 4610 * OB ≤ PB := by decide
    omega
  · have hall := nodup_sub_len ps ((one e, one f) :: (void, void) :: (zs e f).flatMap fun y => subs2 (e.pdy y) (f.pdy y)) hn fun p hpm => by
      obtain ⟨w, rfl⟩ := hp p hpm
      by_cases hw : w = []
      · subst hw; exact List.mem_cons.2 (.inl rfl)
      · obtain ⟨v, y, rfl⟩ : ∃ v y, w = v ++ [y] := ⟨w.dropLast, w.getLast hw, (List.dropLast_concat_getLast _).symm⟩
        rcases pair_last e f v y with h | ⟨h, h'⟩
        · rw [h]; simp
        · simp only [List.mem_cons, List.mem_flatMap]
          exact .inr (.inr ⟨y, h, h'⟩)
    have hflat : ((zs e f).flatMap fun y => subs2 (e.pdy y) (f.pdy y)).length ≤ (zs e f).length * 68719476736 := flat_const _ _ _ fun y hy => by
      have h1 := subs2_len (e.pdy y) (f.pdy y)
      have h2 : 2 ^ ((e.pdy y).length + (f.pdy y).length) ≤ 2 ^ 36 := Nat.pow_le_pow_right (by decide) (by
        refine Classical.byContradiction fun hge => hx ⟨y, hy, ?_⟩
        unfold cc
        omega)
      have h3 : (2 : Nat) ^ 36 = 68719476736 := by decide
      omega
    have hz := zs_len he hf
    have h3 : (zs e f).length * 68719476736 ≤ 46 * 68719476736 := Nat.mul_le_mul_right _ hz
    simp only [List.length_cons] at hall
    omega
/-- So many ways there are, at most. -/
theorem ways_len {a b : Au} {bad : Int → Int → Bool} {names : List ByteArray} {i : Nat} {done : List ByteArray} {ways : List Way} (h : Ways a b bad names i done ways) {La Lb : Nat → Row → Prop} (ha : Least a La) (hb : Least b Lb) {e f : E} (he : e.cnt ≤ 24) (hf : f.cnt ≤ 24) (hoe : e.ok = true) (hof : f.ok = true)
    (h1 : ∀ w, La 0 w ↔ e.L w) (h2 : ∀ w, Lb 0 w ↔ f.L w) : ways.length ≤ PB := by
  have key : ∀ {a : Au} {L : Nat → Row → Prop} {e : E}, Least a L → e.ok = true → (∀ w, L 0 w ↔ e.L w) → ∀ w w', der (one e) w = der (one e) w' → a.run 0 w = a.run 0 w' := by
    intro a L e ha hoe h1 w w' hd
    obtain ⟨p1, p2⟩ := sem_run ha.sem.toSem0 w (st0 ha.sem.toSem0)
    obtain ⟨q1, q2⟩ := sem_run ha.sem.toSem0 w' (st0 ha.sem.toSem0)
    have h0 : ∀ v, LI L 0 v ↔ e.L v := fun v => by unfold LI; simp [h1]
    refine least_eq ha p1 q1 fun v => ?_
    rw [← p2 v, ← q2 v, h0, h0, ← der_L hoe w v, ← der_L hoe w' v, hd]
  have hn := nodup_map (fun q : Way => pairOf e f q.2) ways (by
    have := h.nodup
    exact (List.pairwise_map.1 this).imp fun hne e => hne (by rw [e])) fun q hq q' hq' heq => by
    have e1 := key ha hoe h1 q.2 q'.2 (congrArg Prod.fst heq)
    have e2 := key hb hof h2 q.2 q'.2 (congrArg Prod.snd heq)
    have e3 : q.1 = q'.1 := by rw [(h.at' q hq).1, (h.at' q' hq').1, pr, pr, e1, e2]
    obtain ⟨k, hk⟩ := List.getElem?_of_mem hq
    obtain ⟨k', hk'⟩ := List.getElem?_of_mem hq'
    have g1 : (ways.map (·.1))[k]? = some q.1 := by rw [List.getElem?_map, hk]; rfl
    have g2 : (ways.map (·.1))[k']? = some q.1 := by rw [List.getElem?_map, hk', e3]; rfl
    have hkk : k = k' := by
      obtain ⟨x1, x2⟩ := List.getElem?_eq_some_iff.1 g1
      obtain ⟨y1, y2⟩ := List.getElem?_eq_some_iff.1 g2
      rcases Nat.lt_trichotomy k k' with g | g | g
      · exact absurd (x2.trans y2.symm) (List.pairwise_iff_getElem.1 h.nodup _ _ x1 y1 g)
      · exact g
      · exact absurd (y2.trans x2.symm) (List.pairwise_iff_getElem.1 h.nodup _ _ y1 x1 g)
    subst hkk
    rw [hk] at hk'
    exact Option.some.inj hk'
  have := pairs_len he hf _ hn fun p hp => by
    obtain ⟨q, _, rfl⟩ := List.mem_map.1 hp
    exact ⟨q.2, rfl⟩
  rwa [List.length_map] at this
end Go.Proofs.D
/-
  THE ANSWER'S TABLE: sets of places, classes by turns, numbered: it is the least one, too.
-/
set_option linter.unusedVariables false
set_option linter.unusedSimpArgs false
namespace Go.Proofs.D
open Go Go.Abs
def Pr.en (r : Pr) : Nat := r.pl.names.length
def LS (r : Pr) (S : List Nat) : Row → Prop
  | [] => r.en ∈ S
  | a :: w => ∃ x ∈ S, r.pl.names[x]? = some a ∧ PathF (fun x => r.pl.names[x]?) (· ∈ r.last) (fun x y => y ∈ r.pl.behind.getD x []) x w
section
variable {r : Pr} {L : Row → Prop} (h : Good 0 r L)
include h
end
/-! ### classes by turns -/
/-- What leads to a dead state leads nowhere. -/
def cutD (d : Au) (C : List Int) (dead : Int) : Au := ⟨d.names, d.next.map fun r => r.map fun t => if 0 ≤ dead ∧ C.getD t.toNat 0 = C.getD dead.toNat 0 then -1 else t, d.final⟩
end Go.Proofs.D
/-
  PLACES: what the walk must know of them.
-/
set_option linter.unusedVariables false
set_option linter.unusedSimpArgs false
namespace Go.Proofs.D
open Go Go.Abs
def Under (n : Nat) (l : List Nat) : Prop := Rises l ∧ ∀ x ∈ l, x < n
theorem Under.mono {n m : Nat} {l : List Nat} (h : Under n l) (hm : n ≤ m) : Under m l := ⟨h.1, fun x hx => Nat.lt_of_lt_of_le (h.2 x hx) hm⟩
theorem Under.put {n : Nat} {l k : List Nat} (h : Under n l) (h' : Under n k) : Under n (putN l k) := ⟨put_rises h.1 h'.1, fun x hx => ((mem_put x l k).1 hx).elim (h.2 x) (h'.2 x)⟩
theorem Under.len {n : Nat} {l : List Nat} (h : Under n l) : l.length ≤ n := by
  have := nodup_sub_len l (List.range n) (nodup_rises h.1) fun x hx => List.mem_range.2 (h.2 x hx)
  simpa using this
structure WkP (P : Pl) : Prop where
  len : P.behind.length = P.names.length
  bh : ∀ b ∈ P.behind, Under P.names.length b
structure Wk (r : Pr) : Prop where
  pl : WkP r.pl
  first : Under r.pl.names.length r.first
  last : Under r.pl.names.length r.last
end Go.Proofs.D
/-
  EXPRESSIONS' LEAST TABLES: each state is met; renamed ones have as many; what tells two apart.
-/
set_option linter.unusedVariables false
set_option linter.unusedSimpArgs false
namespace Go.Proofs.D
open Go Go.Abs
noncomputable def E.dfa (e : E) : Au := leastA (whole e) (wholeL e)
noncomputable def E.dfaL (e : E) : Nat → Row → Prop := numL (whole e) (cstar (whole e).next.length (wholeL e)) (wholeL e)
theorem dfa_least {e : E} (hok : e.ok = true) (hc : e.cnt ≤ 24) : Least e.dfa e.dfaL ∧ ∀ w, e.dfaL 0 w ↔ e.L w := by
  obtain ⟨h1, h2⟩ := whole_sem e hok hc
  obtain ⟨h3, h4⟩ := numbered_least h1 (names_nodup e) (cstar_exact (whole e) (wholeL e))
  exact ⟨h3, fun w => (h4 w).trans (h2 w)⟩
/-! ### what tells two apart -/
def badP (a b : Au) (both : Bool) (s t : Int) : Bool := (a.acc s && !b.acc t) || (both && (b.acc t && !a.acc s))
/-- The rows that e means, and f does not; or the other way round, too. -/
def Dif (e f : E) (both : Bool) (w : Row) : Prop := (e.L w ∧ ¬ f.L w) ∨ (both = true ∧ f.L w ∧ ¬ e.L w)
theorem badP_iff {a b : Au} {La Lb : Nat → Row → Prop} (ha : Least a La) (hb : Least b Lb) {e f : E} (h1 : ∀ w, La 0 w ↔ e.L w) (h2 : ∀ w, Lb 0 w ↔ f.L w) (both : Bool) (w : Row) : badP a b both (a.run 0 w) (b.run 0 w) = true ↔ Dif e f both w := by
  have e1 := (sem_has ha.sem.toSem0 w).trans (h1 w)
  have e2 := (sem_has hb.sem.toSem0 w).trans (h2 w)
  unfold badP Dif
  rw [← e1, ← e2]
  cases a.acc (a.run 0 w) <;> cases b.acc (b.run 0 w) <;> cases both <;> simp
theorem badP_dead (a b : Au) (both : Bool) : badP a b both (-1) (-1) = false := by simp [badP, Au.acc]
open Classical in
noncomputable def apartR (e f : E) (both : Bool) : Row × Bool := (theRow (Dif e f both), decide (∃ w, Dif e f both w))
theorem apart_found {a b : Au} {La Lb : Nat → Row → Prop} (ha : Least a La) (hb : Least b Lb) {e f : E} (h1 : ∀ w, La 0 w ↔ e.L w) (h2 : ∀ w, Lb 0 w ↔ f.L w) {both : Bool} {names : List ByteArray} (hnm : ∀ x, x ∈ names ↔ x ∈ a.names ∨ x ∈ b.names) {i : Nat} {ways : List Way} (h : Ways a b (badP a b both) names i [] ways)
    {p : Way} (hp : ways[i]? = some p) (hbad : badP a b both p.1.1 p.1.2 = true) : apartR e f both = (p.2, true) := by
  have hat := (h.at' p (List.mem_of_getElem? hp)).1
  rw [hat] at hbad
  have hD : Dif e f both p.2 := (badP_iff ha hb h1 h2 both p.2).1 hbad
  have hl : LeastRow (Dif e f both) p.2 := ⟨hD, fun v hv q => by
    have := ways_found h ha.sem.row hb.sem.row hnm (badP_dead a b both) hp v hv
    rw [show badP a b both (pr a b v).1 (pr a b v).2 = true from (badP_iff ha hb h1 h2 both v).2 q] at this
    cases this⟩
  have hx : ∃ w, Dif e f both w := ⟨_, hD⟩
  unfold apartR
  rw [theRow_eq hl]
  simp [hx]
theorem apart_none {a b : Au} {La Lb : Nat → Row → Prop} (ha : Least a La) (hb : Least b Lb) {e f : E} (h1 : ∀ w, La 0 w ↔ e.L w) (h2 : ∀ w, Lb 0 w ↔ f.L w) {both : Bool} {names : List ByteArray} (hnm : ∀ x, x ∈ names ↔ x ∈ a.names ∨ x ∈ b.names) {i : Nat} {ways : List Way} (h : Ways a b (badP a b both) names i [] ways)
    (hi : ways.length ≤ i) : apartR e f both = ([], false) := by
  have hno : ∀ w, ¬ Dif e f both w := fun w q => by
    have := ways_none h ha.sem.row hb.sem.row hnm (badP_dead a b both) hi w
    rw [show badP a b both (pr a b w).1 (pr a b w).2 = true from (badP_iff ha hb h1 h2 both w).2 q] at this
    cases this
  have hx : ¬ ∃ w, Dif e f both w := fun ⟨w, hw⟩ => hno w hw
  unfold apartR
  rw [theRow_none hno]
  simp [hx]
open Classical in
theorem apartR_true {e f : E} {both : Bool} (h : (apartR e f both).2 = true) : ∃ w, Dif e f both w := of_decide_eq_true h
open Classical in
theorem apartR_false {e f : E} {both : Bool} (h : (apartR e f both).2 = false) (w : Row) : ¬ Dif e f both w := fun q => of_decide_eq_false h ⟨w, q⟩
end Go.Proofs.D
/-
  SETS OF PLACES, as they are met: what the walk must know.
-/
set_option linter.unusedVariables false
set_option linter.unusedSimpArgs false
namespace Go.Proofs.D
open Go Go.Abs
section
variable {σ κ : Type} [DecidableEq κ] (key : σ → κ)
theorem rowK_append : ∀ (l1 l2 : List (Option σ)) (all : List σ), rowK key all (l1 ++ l2) = ((rowK key (rowK key all l1).1 l2).1, (rowK key all l1).2 ++ (rowK key (rowK key all l1).1 l2).2)
  | [], l2, all => by simp [rowK]
  | none :: l1, l2, all => by simp [rowK, rowK_append l1 l2 all]
  | some s :: l1, l2, all => by
    simp only [List.cons_append, rowK]
    split
    · simp [rowK_append l1 l2 all]
    · simp [rowK_append l1 l2 (all ++ [s])]
theorem rowK_some (all : List σ) (s : σ) : rowK key all [some s] = if key s ∈ all.map key then (all, [(ixK (key s) (all.map key) : Int)]) else (all ++ [s], [(all.length : Int)]) := by
  simp only [rowK]
theorem rowK_none (all : List σ) : rowK key all [none] = (all, [-1]) := rfl
theorem rowK_mono (l1 l2 : List (Option σ)) (all : List σ) (h : (all.map key).Nodup) : (rowK key all l1).1.length ≤ (rowK key all (l1 ++ l2)).1.length := by
  obtain ⟨m, h1, h2, _⟩ := rowK_spec key l1 all h
  obtain ⟨m', g1, _⟩ := rowK_spec key l2 (rowK key all l1).1 h2
  rw [rowK_append, g1, List.length_append]
  omega
end
end Go.Proofs.D
/-
  THE LEAST ROW THAT TELLS TWO EXPRESSIONS APART: there is one, if there is any; how long it is; both ways round.
-/
set_option linter.unusedVariables false
set_option linter.unusedSimpArgs false
namespace Go.Proofs.D
open Go Go.Abs
/-- The least of a list. -/
theorem least_list (D : Row → Prop) : ∀ l : List Row, (∃ w ∈ l, D w) → ∃ w ∈ l, D w ∧ ∀ v ∈ l, slt v w → ¬ D v
  | [], h => by obtain ⟨w, hw, _⟩ := h; cases hw
  | u :: l, h => by
    by_cases hl : ∃ w ∈ l, D w
    · obtain ⟨w, hw, hD, hmin⟩ := least_list D l hl
      by_cases hu : D u ∧ slt u w
      · refine ⟨u, by simp, hu.1, fun v hv hlt => ?_⟩
        rcases List.mem_cons.1 hv with rfl | hv
        · exact absurd hlt (slt_irrefl _)
        · exact hmin v hv (slt_trans hlt hu.2)
      · refine ⟨w, by simp [hw], hD, fun v hv hlt => ?_⟩
        rcases List.mem_cons.1 hv with rfl | hv
        · exact fun q => hu ⟨q, hlt⟩
        · exact hmin v hv hlt
    · obtain ⟨w, hw, hD⟩ := h
      rcases List.mem_cons.1 hw with rfl | hw
      · refine ⟨w, by simp, hD, fun v hv hlt => ?_⟩
        rcases List.mem_cons.1 hv with rfl | hv
        · exact absurd hlt (slt_irrefl _)
        · exact fun q => hl ⟨v, hv, q⟩
      · exact absurd ⟨w, hw, hD⟩ hl
/-- All rows of a length over some names. -/
def rowsOf (names : List ByteArray) : Nat → List Row
  | 0 => [[]]
  | n + 1 => names.flatMap fun a => (rowsOf names n).map (a :: ·)
theorem rowsOf_mem (names : List ByteArray) : ∀ (n : Nat) (w : Row), w ∈ rowsOf names n ↔ w.length = n ∧ ∀ x ∈ w, x ∈ names
  | 0, w => by
    simp only [rowsOf, List.mem_singleton, List.length_eq_zero_iff]
    exact ⟨fun h => ⟨h, by subst h; simp⟩, fun h => h.1⟩
  | n + 1, w => by
    simp only [rowsOf, List.mem_flatMap, List.mem_map]
    constructor
    · rintro ⟨a, ha, v, hv, rfl⟩
      obtain ⟨h1, h2⟩ := (rowsOf_mem names n v).1 hv
      refine ⟨by simp [h1], fun x hx => ?_⟩
      rcases List.mem_cons.1 hx with rfl | hx
      · exact ha
      · exact h2 x hx
    · rintro ⟨h1, h2⟩
      match w, h1, h2 with
      | [], h1, _ => simp at h1
      | a :: v, h1, h2 => exact ⟨a, h2 a (by simp), v, (rowsOf_mem names n v).2 ⟨by simpa using h1, fun x hx => h2 x (by simp [hx])⟩, rfl⟩
theorem least_row {D : Row → Prop} (names : List ByteArray) (hn : ∀ w, D w → ∀ x ∈ w, x ∈ names) (h : ∃ w, D w) : ∃ w, LeastRow D w := by
  obtain ⟨n, ⟨w, hw, hD⟩, hmin⟩ := least_nat (p := fun n => ∃ w : Row, w.length = n ∧ D w) (by obtain ⟨w, hw⟩ := h; exact ⟨_, w, rfl, hw⟩)
  obtain ⟨u, hu, hDu, hu2⟩ := least_list D (rowsOf names n) ⟨w, (rowsOf_mem _ _ _).2 ⟨hw, hn w hD⟩, hD⟩
  have hul := ((rowsOf_mem _ _ _).1 hu).1
  refine ⟨u, hDu, fun v hv q => ?_⟩
  have h1 := hmin v.length ⟨v, rfl, q⟩
  have h2 : v.length = n := by
    rcases hv with hv | ⟨hv, _⟩ <;> omega
  exact hu2 v ((rowsOf_mem _ _ _).2 ⟨h2, hn v q⟩) hv q
theorem dif_names {e f : E} (hoe : e.ok = true) (hof : f.ok = true) (both : Bool) (w : Row) (h : Dif e f both w) : ∀ x ∈ w, x ∈ e.names ++ f.names := fun x hx => by
  rcases h with ⟨h, _⟩ | ⟨_, h, _⟩
  · exact List.mem_append.2 (.inl ((names_mem e x).2 (L_occ e hoe w h x hx)))
  · exact List.mem_append.2 (.inr ((names_mem f x).2 (L_occ f hof w h x hx)))
theorem apartR_least {e f : E} (hoe : e.ok = true) (hof : f.ok = true) {both : Bool} (h : (apartR e f both).2 = true) : LeastRow (Dif e f both) (apartR e f both).1 := by
  obtain ⟨u, hu⟩ := least_row _ (dif_names hoe hof both) (apartR_true h)
  have : (apartR e f both).1 = u := theRow_eq hu
  rw [this]
  exact hu
theorem apartR_nil {e f : E} {both : Bool} (h : (apartR e f both).2 = false) : (apartR e f both).1 = [] := theRow_none (apartR_false h)
theorem dif_comm (e f : E) : Dif e f true = Dif f e true := by
  funext w
  apply propext
  unfold Dif
  simp only [true_and]
  exact ⟨fun h => h.symm, fun h => h.symm⟩
theorem apartR_comm (e f : E) : apartR e f true = apartR f e true := by
  unfold apartR
  rw [dif_comm e f]
/-- It is not longer than there are pairs. -/
theorem apartR_len {e f : E} (he : e.cnt ≤ 24) (hf : f.cnt ≤ 24) (hoe : e.ok = true) (hof : f.ok = true) (both : Bool) : (apartR e f both).1.length ≤ PB := by
  cases h : (apartR e f both).2 with
  | false => rw [apartR_nil h]; simp
  | true =>
    obtain ⟨hD, hmin⟩ := apartR_least hoe hof h
    generalize (apartR e f both).1 = w at hD hmin
    have hL : ∀ u v v' : Row, pairOf e f v = pairOf e f v' → (Dif e f both (v ++ u) ↔ Dif e f both (v' ++ u)) := fun u v v' q => by
      have q1 : der (one e) v = der (one e) v' := congrArg Prod.fst q
      have q2 : der (one f) v = der (one f) v' := congrArg Prod.snd q
      have h1 : e.L (v ++ u) ↔ e.L (v' ++ u) := by rw [← der_L hoe, ← der_L hoe, q1]
      have h2 : f.L (v ++ u) ↔ f.L (v' ++ u) := by rw [← der_L hof, ← der_L hof, q2]
      unfold Dif
      rw [h1, h2]
    have hne : ∀ i j, i < j → j ≤ w.length → pairOf e f (w.take i) ≠ pairOf e f (w.take j) := fun i j hij hj q => by
      refine hmin (w.take i ++ w.drop j) (.inl ?_) ((hL _ _ _ q).2 (by rw [List.take_append_drop]; exact hD))
      simp only [List.length_append, List.length_take, List.length_drop]
      omega
    have hn := nodup_map (fun i => pairOf e f (w.take i)) (List.range (w.length + 1)) List.nodup_range fun i hi j hj q => by
      have hi := List.mem_range.1 hi
      have hj := List.mem_range.1 hj
      rcases Nat.lt_trichotomy i j with g | g | g
      · exact absurd q (hne i j g (by omega))
      · exact g
      · exact absurd q.symm (hne j i g (by omega))
    have := pairs_len he hf _ hn fun p hp => by
      obtain ⟨i, _, rfl⟩ := List.mem_map.1 hp
      exact ⟨_, rfl⟩
    simp only [List.length_map, List.length_range] at this
    omega
end Go.Proofs.D
/-
  ROWS OF WAYS are not longer than their places.
-/
set_option linter.unusedVariables false
set_option linter.unusedSimpArgs false
namespace Go.Proofs.D
open Go Go.Abs
/-- The row of a way is not longer than its place. -/
theorem ways_row {a b : Au} {bad : Int → Int → Bool} {names : List ByteArray} {i : Nat} {done : List ByteArray} {ways : List Way} (h : Ways a b bad names i done ways) : ∀ (k : Nat) (q : Way), ways[k]? = some q → q.2.length ≤ k := by
  intro k
  induction k using Nat.strongRecOn with
  | _ k ih =>
    intro q hq
    rcases h.last q (List.mem_of_getElem? hq) with e | ⟨k', p, x, hp, e, _⟩
    · rw [e]; simp
    · have hlt : k' < k := by
        rcases Nat.lt_trichotomy k' k with g | g | g
        · exact g
        · subst g
          rw [hp] at hq
          cases hq
          have := congrArg List.length e
          simp at this
        · exact absurd (slt_trans (h.sorted k k' q p g hq hp) (by rw [e]; exact slt_app _ _)) (slt_irrefl _)
      have := ih k' hlt p hp
      rw [e, List.length_append]
      simp
      omega
end Go.Proofs.D
/-
  CLASSES by turns: what the walk must know.
-/
set_option linter.unusedVariables false
set_option linter.unusedSimpArgs false
namespace Go.Proofs.D
open Go Go.Abs
/-- A table whose rows lead somewhere, always. -/
structure Tot (d : Au) : Prop where
  fin : d.final.length = d.next.length
  row : ∀ r ∈ d.next, r.length = d.names.length ∧ ∀ t ∈ r, ∃ n : Nat, t = n ∧ n < d.next.length
end Go.Proofs.D
/-
  A TABLE NUMBERED by classes: what the walks must know.
-/
set_option linter.unusedVariables false
set_option linter.unusedSimpArgs false
namespace Go.Proofs.D
open Go Go.Abs
section
variable {σ κ : Type} [DecidableEq κ] (key : σ → κ)
/-- k places of a row. -/
def rowQ (A : List σ) (l : List (Option σ)) (k : Nat) : List σ × List Int := rowK key A (l.take k)
theorem rowQ_zero (A : List σ) (l : List (Option σ)) : rowQ key A l 0 = (A, []) := by simp [rowQ, rowK]
theorem rowQ_all (A : List σ) (l : List (Option σ)) : rowQ key A l l.length = rowK key A l := by
  unfold rowQ
  rw [List.take_of_length_le (Nat.le_refl _)]
theorem rowQ_none {A : List σ} {l : List (Option σ)} {k : Nat} (h : l[k]? = some none) : rowQ key A l (k + 1) = ((rowQ key A l k).1, (rowQ key A l k).2 ++ [-1]) := by
  unfold rowQ
  rw [List.take_add_one, h, Option.toList_some, rowK_append, rowK_none]
theorem rowQ_some {A : List σ} {l : List (Option σ)} {k : Nat} {s : σ} (h : l[k]? = some (some s)) : rowQ key A l (k + 1) =
    if key s ∈ (rowQ key A l k).1.map key then ((rowQ key A l k).1, (rowQ key A l k).2 ++ [(ixK (key s) ((rowQ key A l k).1.map key) : Int)]) else ((rowQ key A l k).1 ++ [s], (rowQ key A l k).2 ++ [((rowQ key A l k).1.length : Int)]) := by
  unfold rowQ
  rw [List.take_add_one, h, Option.toList_some, rowK_append, rowK_some]
  split <;> rfl
theorem rowQ_facts {A : List σ} {l : List (Option σ)} (hn : (A.map key).Nodup) (k : Nat) (hk : k ≤ l.length) :
    ((rowQ key A l k).1.map key).Nodup ∧ (rowQ key A l k).2.length = k ∧ (rowQ key A l k).1.length ≤ (rowK key A l).1.length ∧ ∃ m, (rowQ key A l k).1 = A ++ m ∧ ∀ s ∈ m, some s ∈ l := by
  obtain ⟨m, h1, h2, h3, h4, _⟩ := rowK_spec key (l.take k) A hn
  refine ⟨h2, by unfold rowQ; rw [h4, List.length_take]; omega, ?_, m, h1, fun s hs => List.mem_of_mem_take (h3 s hs)⟩
  have := rowK_mono key (l.take k) (l.drop k) A hn
  rw [List.take_append_drop] at this
  exact this
end
/-- A table whose rows lead to states, or nowhere. -/
structure Lim (d : Au) : Prop where
  pos : 0 < d.next.length
  fin : d.final.length = d.next.length
  row : ∀ r ∈ d.next, r.length = d.names.length ∧ ∀ t ∈ r, t = -1 ∨ ∃ n : Nat, t = n ∧ n < d.next.length
theorem Tot.lim {d : Au} (h : Tot d) (h0 : 0 < d.next.length) : Lim d := ⟨h0, h.fin, fun r hr => ⟨(h.row r hr).1, fun t ht => .inr ((h.row r hr).2 t ht)⟩⟩
theorem Tot.cut {d : Au} (h : Tot d) (h0 : 0 < d.next.length) (C : List Int) (dead : Int) : Lim (cutD d C dead) := by
  refine ⟨by simpa [cutD] using h0, by simp [cutD, h.fin], fun r hr => ?_⟩
  simp only [cutD] at hr ⊢
  obtain ⟨q, hq, rfl⟩ := List.mem_map.1 hr
  obtain ⟨a, b⟩ := h.row q hq
  refine ⟨by simpa using a, fun t ht => ?_⟩
  obtain ⟨u, hu, rfl⟩ := List.mem_map.1 ht
  split
  · exact .inl rfl
  · obtain ⟨n, e, hn⟩ := b u hu
    exact .inr ⟨n, e, by simpa using hn⟩
theorem num_of {d : Au} (h : Lim d) (C : List Int) (i : Nat) : ∀ s ∈ (numM d C i).1, s < d.next.length := by
  refine met_all _ _ _ (fun s => s < d.next.length) h.pos (fun s hs t ht => ?_) i
  obtain ⟨x, hx, e⟩ := List.mem_map.1 ht
  split at e
  · cases e
  · cases e
    have e1 : d.next[s]? = some d.next[s] := by simp
    rw [e1, Option.getD_some] at hx
    rcases (h.row _ (List.getElem_mem hs)).2 x hx with q | ⟨n, rfl, q⟩
    · omega
    · simpa using q
theorem num_len {d : Au} (h : Lim d) (C : List Int) (i : Nat) : (numM d C i).1.length ≤ d.next.length := by
  have hM := met_is (fun s => C.getD s 0) (nextN d) 0 i
  have h1 : (numM d C i).1.Nodup := by
    have := hM.nodup
    exact (List.pairwise_map.1 this).imp fun hne e => hne (by rw [e])
  have := nodup_sub_len _ (List.range d.next.length) h1 fun s hs => List.mem_range.2 (num_of h C i s hs)
  simpa using this
theorem num_nodup (d : Au) (C : List Int) (i : Nat) : ((numM d C i).1.map fun s => C.getD s 0).Nodup := (met_is (fun s => C.getD s 0) (nextN d) 0 i).nodup
theorem num_rows (d : Au) (C : List Int) (i : Nat) (hi : i ≤ (numM d C i).1.length) : (numM d C i).2.length = i := by
  have h : Met (fun s => C.getD s 0) (nextN d) 0 i (numM d C i).1 (numM d C i).2 := met_is _ _ _ _
  rcases h.many with h | h <;> omega
theorem num_step (d : Au) (C : List Int) (i s : Nat) (h : (numM d C i).1[i]? = some s) : numM d C (i + 1) = ((rowK (fun s => C.getD s 0) (numM d C i).1 (nextN d s)).1, (numM d C i).2 ++ [(rowK (fun s => C.getD s 0) (numM d C i).1 (nextN d s)).2]) := by
  unfold numM at h ⊢
  simp only [met, h]
theorem num_first (d : Au) (C : List Int) : numM d C 0 = ([0], []) := rfl
theorem num_end (d : Au) (C : List Int) (i W : Nat) (h : (numM d C i).1.length ≤ i) (hi : i ≤ W) : numM d C W = numM d C i := by
  have := met_end (fun s => C.getD s 0) (nextN d) 0 i h (W - i)
  rw [show i + (W - i) = W by omega] at this
  exact this
/-- What is met stays where it is. -/
theorem num_pre (d : Au) (C : List Int) (i : Nat) : ∃ m, (numM d C (i + 1)).1 = (numM d C i).1 ++ m := by
  cases h : (numM d C i).1[i]? with
  | none =>
    refine ⟨[], ?_⟩
    rw [num_end d C i (i + 1) (List.getElem?_eq_none_iff.1 h) (by omega)]
    simp
  | some s =>
    rw [num_step d C i s h]
    obtain ⟨m, h1, _⟩ := rowK_spec (fun s => C.getD s 0) (nextN d s) (numM d C i).1 (num_nodup d C i)
    exact ⟨m, h1⟩
theorem nextN_get {d : Au} {s k : Nat} {t : Int} {r : List Int} (hr : d.next[s]? = some r) (ht : r[k]? = some t) : (nextN d s)[k]? = some (if t < 0 then none else some t.toNat) := by
  simp [nextN, hr, ht]
theorem nextN_len {d : Au} {s : Nat} {r : List Int} (hr : d.next[s]? = some r) : (nextN d s).length = r.length := by simp [nextN, hr]
end Go.Proofs.D
