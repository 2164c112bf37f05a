/-
  SETS THAT GO ON BY ONE NAME come round: how soon.
-/
import Derived.Test.YtciibpfhjfegnaaGreatDoorL8
import Derived.Test.YtciibpfhjfegnaaGreatDoorD10
import Derived.Test.YtciibpfhjfegnaaGreatDoorLO
import Derived.Test.YtciibpfhjfegnaaGreatDoorF11
import Derived.Test.YtciibpfhjfegnaaGreatDoorF7
import Derived.Test.YtciibpfhjfegnaaGreatDoorF3
set_option linter.unusedVariables false
set_option linter.unusedSimpArgs false
namespace Go.Proofs.D
open Go Go.Abs
theorem cube_le : ∀ g : Nat, 0 < g → g ^ 3 ≤ 3 ^ g := by
  have key : ∀ k, (k + 3) ^ 3 ≤ 3 ^ (k + 3) := by
    intro k
    induction k with
    | zero => decide
    | succ k ih =>
      have e : 3 ^ (k + 1 + 3) = 3 * 3 ^ (k + 3) := by rw [show k + 1 + 3 = (k + 3) + 1 by omega, Nat.pow_succ]; omega
      have h : (3 * (k + 1 + 3)) ^ 3 ≤ (4 * (k + 3)) ^ 3 := Nat.pow_le_pow_left (by omega) 3
      rw [Nat.mul_pow, Nat.mul_pow] at h
      omega
  intro g hg
  match g, hg with
  | 1, _ => decide
  | 2, _ => decide
  | k + 3, _ => exact key k
theorem least_nat {p : Nat → Prop} (h : ∃ n, p n) : ∃ n, p n ∧ ∀ m, p m → n ≤ m := by
  obtain ⟨n, hn⟩ := h
  induction n using Nat.strongRecOn with
  | _ n ih =>
    by_cases hx : ∃ m, m < n ∧ p m
    · obtain ⟨m, h1, h2⟩ := hx
      exact ih m h1 h2
    · exact ⟨n, hn, fun m hm => Classical.byContradiction fun h => hx ⟨m, by omega, hm⟩⟩
/-- Numbers each of which stands as often as it says, at least: a product of them all, that is small. -/
theorem prod_of : ∀ (n : Nat) (l : List Nat), l.length ≤ n → (∀ g ∈ l, 0 < g ∧ g ≤ (l.filter fun x => decide (x = g)).length) → ∃ P, 0 < P ∧ P ^ 3 ≤ 3 ^ l.length ∧ ∀ g ∈ l, ∃ q, P = g * q := by
  intro n
  induction n with
  | zero =>
    intro l hl _
    have hl0 : l.length = 0 := by omega
    obtain rfl := List.eq_nil_of_length_eq_zero hl0
    exact ⟨1, by decide, by decide, fun g h => by cases h⟩
  | succ n ih =>
    intro l hl h
    cases l with
    | nil => exact ⟨1, by decide, by decide, fun g h => by cases h⟩
    | cons g r =>
      obtain ⟨hg0, hg⟩ := h g (by simp)
      have hsplit : ∀ l : List Nat, l.length = (l.filter fun x => decide (x = g)).length + (l.filter fun x => !decide (x = g)).length := by
        intro l
        induction l with
        | nil => rfl
        | cons x l ih =>
          by_cases hx : x = g
          · simp [hx]; omega
          · simp [hx]; omega
      have hs := hsplit (g :: r)
      have hkeep : ∀ y ∈ ((g :: r).filter fun x => !decide (x = g)), y ∈ g :: r ∧ y ≠ g := fun y hy => by
        have := List.mem_filter.1 hy
        exact ⟨this.1, by simpa using this.2⟩
      have hcnt : ∀ y, y ≠ g → ∀ l : List Nat, ((l.filter fun x => !decide (x = g)).filter fun x => decide (x = y)) = l.filter fun x => decide (x = y) := fun y hy l => by
        rw [List.filter_filter]
        congr 1
        funext x
        by_cases hx : x = y
        · simp [hx, hy]
        · simp [hx]
      generalize hm : ((g :: r).filter fun x => !decide (x = g)) = m at hs hkeep hcnt
      obtain ⟨P, h0, h1, h2⟩ := ih m (by omega) fun y hy => by
        obtain ⟨a, b⟩ := hkeep y hy
        have := h y a
        rw [← hm, hcnt y b (g :: r)]
        exact this
      refine ⟨g * P, Nat.mul_pos hg0 h0, ?_, fun y hy => ?_⟩
      · rw [Nat.mul_pow]
        refine Nat.le_trans (Nat.mul_le_mul (cube_le g hg0) h1) ?_
        rw [← Nat.pow_add]
        exact Nat.pow_le_pow_right (by decide) (by omega)
      · by_cases hyg : y = g
        · exact ⟨P, by rw [hyg]⟩
        · obtain ⟨q, hq⟩ := h2 y (by rw [← hm]; exact List.mem_filter.2 ⟨hy, by simp [hyg]⟩)
          exact ⟨g * q, by rw [hq, ← Nat.mul_assoc, Nat.mul_comm g y, Nat.mul_assoc]⟩
section
variable {α : Type} (E : α → α → Prop)
/-- From one to another one in so many steps. -/
def Walk : Nat → α → α → Prop
  | 0, p, q => p = q
  | m + 1, p, q => ∃ r, Walk m p r ∧ E r q
theorem Walk.trans {p q r : α} {m : Nat} (h : Walk E m p q) : ∀ {n : Nat}, Walk E n q r → Walk E (m + n) p r := by
  intro n
  induction n generalizing r with
  | zero => intro h'; have : q = r := h'; exact this ▸ h
  | succ n ih => rintro ⟨s, h1, h2⟩; exact ⟨s, ih h1, h2⟩
theorem Walk.split {p q : α} : ∀ {m n : Nat}, Walk E (m + n) p q → ∃ r, Walk E m p r ∧ Walk E n r q := by
  intro m n
  induction n generalizing q with
  | zero => exact fun h => ⟨q, h, rfl⟩
  | succ n ih =>
    rintro ⟨s, h1, h2⟩
    obtain ⟨r, a, b⟩ := ih h1
    exact ⟨r, a, s, b, h2⟩
variable (S : Nat → α → Prop) (hS : ∀ k x, S (k + 1) x ↔ ∃ p, S k p ∧ E p x)
include hS
theorem walk_on {k m : Nat} {p q : α} (hp : S k p) (h : Walk E m p q) : S (k + m) q := by
  induction m generalizing q with
  | zero => have : p = q := h; exact this ▸ hp
  | succ m ih =>
    obtain ⟨r, h1, h2⟩ := h
    exact (hS _ _).2 ⟨r, ih h1, h2⟩
theorem walk_back {k m : Nat} {q : α} (h : S (k + m) q) : ∃ p, S k p ∧ Walk E m p q := by
  induction m generalizing q with
  | zero => exact ⟨q, h, rfl⟩
  | succ m ih =>
    obtain ⟨r, h1, h2⟩ := (hS _ _).1 h
    obtain ⟨p, a, b⟩ := ih h1
    exact ⟨p, a, r, b, h2⟩
theorem again_on {i j : Nat} (he : S i = S j) (d : Nat) : S (i + d) = S (j + d) := by
  induction d with
  | zero => exact he
  | succ d ih =>
    funext x
    apply propext
    have e1 := hS (i + d) x
    have e2 := hS (j + d) x
    rw [ih] at e1
    exact e1.trans e2.symm
open Classical in
/-- THEY COME ROUND, in a small number of steps, from some turn on. -/
theorem comes_round (V : List α) (hV : ∀ k x, S (k + 1) x → x ∈ V) : ∃ i P, i ≤ 2 ^ V.length + 1 ∧ 0 < P ∧ P ^ 3 ≤ 3 ^ V.length ∧ ∀ k, i ≤ k → S (k + P) = S k := by
  -- two of them are one
  obtain ⟨i, l, hi1, hil, hl, he⟩ : ∃ i l, 1 ≤ i ∧ i ≤ 2 ^ V.length + 1 ∧ 0 < l ∧ S (i + l) = S i := by
    refine Classical.byContradiction fun hno => ?_
    have hnd : ((List.range (2 ^ V.length + 1)).map fun k => S (k + 1)).Nodup := nodup_map _ _ List.nodup_range fun x hx y hy e => by
      have hx := List.mem_range.1 hx
      have hy := List.mem_range.1 hy
      rcases Nat.lt_trichotomy x y with g | g | g
      · exact absurd ⟨x + 1, y - x, by omega, by omega, by omega, by rw [show x + 1 + (y - x) = y + 1 by omega]; exact e.symm⟩ hno
      · exact g
      · exact absurd ⟨y + 1, x - y, by omega, by omega, by omega, by rw [show y + 1 + (x - y) = x + 1 by omega]; exact e⟩ hno
    have := sets_len V _ hnd fun T hT r hr => by
      obtain ⟨k, _, rfl⟩ := List.mem_map.1 hT
      exact hV k r hr
    simp only [List.length_map, List.length_range] at this
    omega
  have per : ∀ k, i ≤ k → ∀ n, S (k + l * n) = S k := by
    intro k hk n
    induction n with
    | zero => rfl
    | succ n ih =>
      have := again_on E S hS (i := i + l) (j := i) he (k - i + l * n)
      rw [show i + l + (k - i + l * n) = k + l * (n + 1) by rw [Nat.mul_succ]; omega, show i + (k - i + l * n) = k + l * n by omega] at this
      rw [this, ih]
  -- by which numbers one of them comes back
  let K : α → Nat → Prop := fun q m => ∀ k, i ≤ k → S k q → S (k + m) q
  have Kn : ∀ q m, K q m → ∀ n k, i ≤ k → S k q → S (k + m * n) q := by
    intro q m h n
    induction n with
    | zero => intro k _ hq; exact hq
    | succ n ih =>
      intro k hk hq
      rw [show k + m * (n + 1) = (k + m * n) + m by rw [Nat.mul_succ]; omega]
      exact h _ (by omega) (ih k hk hq)
  have Kback : ∀ q m, K q m → ∀ k, i ≤ k → S (k + m) q → S k q := by
    intro q m h k hk hq
    have := Kn q m h (l - 1) (k + m) (by omega) hq
    rw [show k + m + m * (l - 1) = k + l * m by rw [Nat.mul_comm l m]; have : m * l = m * (l - 1) + m := by rw [← Nat.mul_succ]; congr 1; omega
                                                omega, per k hk m] at this
    exact this
  have Kdiff : ∀ q m m', m ≤ m' → K q m → K q m' → K q (m' - m) := by
    intro q m m' hm h h' k hk hq
    have := h' k hk hq
    rw [show k + m' = k + (m' - m) + m by omega] at this
    exact Kback q m h _ (by omega) this
  have Kl : ∀ q, K q l := fun q k hk hq => by have := per k hk 1; rw [Nat.mul_one] at this; rw [this]; exact hq
  have Kcyc : ∀ q c, Walk E c q q → K q c := fun q c h k hk hq => walk_on E S hS hq h
  have gex : ∀ q, ∃ n, (0 < n ∧ K q n) ∧ ∀ m, (0 < m ∧ K q m) → n ≤ m := fun q => least_nat ⟨l, hl, Kl q⟩
  let g : α → Nat := fun q => (gex q).choose
  have gs : ∀ q, 0 < g q ∧ K q (g q) := fun q => (gex q).choose_spec.1
  have gm : ∀ q m, 0 < m → K q m → g q ≤ m := fun q m h0 h => (gex q).choose_spec.2 m ⟨h0, h⟩
  let Cy : α → Prop := fun q => (∃ c, 0 < c ∧ Walk E c q q) ∧ ∃ k, i ≤ k ∧ S k q
  -- those that come back alike are as many, at least
  have hcount : ∀ q, Cy q → g q ≤ (V.filter fun v => decide (Cy v ∧ g v = g q)).length := by
    rintro q ⟨⟨c, hc, hw⟩, k0, hk0, hq0⟩
    have hgc := gm q c hc (Kcyc q c hw)
    have hv : ∀ t, ∃ v, t ≤ c → Walk E t q v ∧ Walk E (c - t) v q := fun t => by
      by_cases ht : t ≤ c
      · have hw' := hw
        rw [show c = t + (c - t) by omega] at hw'
        obtain ⟨v, a, b⟩ := Walk.split E hw'
        exact ⟨v, fun _ => ⟨a, b⟩⟩
      · exact ⟨q, fun h => absurd h ht⟩
    let v : Nat → α := fun t => (hv t).choose
    have hvs : ∀ t, t ≤ c → Walk E t q (v t) ∧ Walk E (c - t) (v t) q := fun t => (hv t).choose_spec
    have hloop : ∀ t, t ≤ c → Walk E c (v t) (v t) := fun t ht => by
      have := Walk.trans E (hvs t ht).2 (hvs t ht).1
      rwa [show c - t + t = c by omega] at this
    have hKv : ∀ t, t ≤ c → ∀ m, K q m ↔ K (v t) m := by
      intro t ht m
      constructor
      · intro h k hk hq
        have h1 := walk_on E S hS hq (hvs t ht).2
        have h2 := h _ (by omega) h1
        have h3 := walk_on E S hS h2 (hvs t ht).1
        rw [show k + (c - t) + m + t = k + m + c by omega] at h3
        exact Kback _ _ (Kcyc _ _ (hloop t ht)) _ (by omega) h3
      · intro h k hk hq
        have h1 := walk_on E S hS hq (hvs t ht).1
        have h2 := h _ (by omega) h1
        have h3 := walk_on E S hS h2 (hvs t ht).2
        rw [show k + t + m + (c - t) = k + m + c by omega] at h3
        exact Kback _ _ (Kcyc _ _ hw) _ (by omega) h3
    have hgv : ∀ t, t ≤ c → g (v t) = g q := fun t ht => by
      refine Nat.le_antisymm (gm _ _ (gs q).1 ((hKv t ht _).1 (gs q).2)) (gm _ _ (gs (v t)).1 ((hKv t ht _).2 (gs (v t)).2))
    have hnd : ((List.range (g q)).map v).Nodup := nodup_map _ _ List.nodup_range fun x hx y hy e => by
      have hx := List.mem_range.1 hx
      have hy := List.mem_range.1 hy
      have key : ∀ x y, x < y → y < g q → v x = v y → False := fun x y hxy hyg e => by
        have h1 := (hvs x (by omega)).1
        have h2 := (hvs y (by omega)).2
        rw [← e] at h2
        have h3 := Kcyc q _ (Walk.trans E h1 h2)
        have h4 := Kdiff q _ _ (by omega : x + (c - y) ≤ c) h3 (Kcyc q c hw)
        have := gm q (c - (x + (c - y))) (by omega) h4
        omega
      rcases Nat.lt_trichotomy x y with h | h | h
      · exact (key x y h hy e).elim
      · exact h
      · exact (key y x h hx e.symm).elim
    have := nodup_sub_len _ (V.filter fun v => decide (Cy v ∧ g v = g q)) hnd fun x hx => by
      obtain ⟨t, ht, rfl⟩ := List.mem_map.1 hx
      have ht := List.mem_range.1 ht
      have hact := walk_on E S hS hq0 (hvs t (by omega)).1
      refine List.mem_filter.2 ⟨?_, decide_eq_true ⟨⟨⟨c, hc, hloop t (by omega)⟩, k0 + t, by omega, hact⟩, hgv t (by omega)⟩⟩
      obtain ⟨n, hn⟩ : ∃ n, k0 + t = n + 1 := ⟨k0 + t - 1, by omega⟩
      rw [hn] at hact
      exact hV n _ hact
    simpa using this
  obtain ⟨P, hP0, hP3, hPd⟩ := prod_of _ ((V.filter fun v => decide (Cy v)).map g) (Nat.le_refl _) fun y hy => by
    obtain ⟨q, hq, rfl⟩ := List.mem_map.1 hy
    have hcy := of_decide_eq_true (List.mem_filter.1 hq).2
    refine ⟨(gs q).1, ?_⟩
    have h1 := hcount q hcy
    have e : (((V.filter fun v => decide (Cy v)).map g).filter fun x => decide (x = g q)).length = (V.filter fun v => decide (Cy v ∧ g v = g q)).length := by
      rw [List.filter_map, List.length_map, List.filter_filter]
      congr 2
      funext v
      simp [Bool.and_comm]
    rw [e]
    exact h1
  have hKP : ∀ q, q ∈ V → Cy q → K q P := fun q hqV hq => by
    obtain ⟨n, hn⟩ := hPd (g q) (List.mem_map.2 ⟨q, List.mem_filter.2 ⟨hqV, decide_eq_true hq⟩, rfl⟩)
    intro k hk hqk
    rw [hn]
    exact Kn q _ (gs q).2 n k hk hqk
  have hsub : ∀ k, i ≤ k → ∀ p, S k p → S (k + P) p := by
    intro k hk p hp
    have hbig : i + V.length ≤ k + l * (V.length + 1) := by
      have : V.length + 1 ≤ l * (V.length + 1) := Nat.le_mul_of_pos_left _ hl
      omega
    rw [← per k hk (V.length + 1)] at hp
    obtain ⟨b, hb⟩ : ∃ b, k + l * (V.length + 1) = b + V.length := ⟨k + l * (V.length + 1) - V.length, by omega⟩
    rw [hb] at hp
    have hbi : i ≤ b := by omega
    -- a walk, vertex by vertex
    have walk : ∃ f : Nat → α, f V.length = p ∧ (∀ t, t ≤ V.length → S (b + t) (f t)) ∧ ∀ t, t < V.length → E (f t) (f (t + 1)) := by
      have gen : ∀ n p, S (b + n) p → ∃ f : Nat → α, f n = p ∧ (∀ t, t ≤ n → S (b + t) (f t)) ∧ ∀ t, t < n → E (f t) (f (t + 1)) := by
        intro n
        induction n with
        | zero => exact fun p hp => ⟨fun _ => p, rfl, fun t ht => by rw [show t = 0 by omega]; exact hp, fun t ht => by omega⟩
        | succ n ih =>
          intro p hp
          obtain ⟨r, h1, h2⟩ := (hS (b + n) p).1 hp
          obtain ⟨f, a1, a2, a3⟩ := ih r h1
          have hno1 : ¬ n + 1 ≤ n := by omega
          refine ⟨fun t => if t ≤ n then f t else p, (by simp only [hno1, if_false]), fun t ht => ?_, fun t ht => ?_⟩
          · by_cases h : t ≤ n
            · simp only [h, if_true]; exact a2 t h
            · simp only [h, if_false]; rw [show t = n + 1 by omega]; exact hp
          · by_cases h : t + 1 ≤ n
            · simp only [show t ≤ n by omega, h, if_true]; exact a3 t (by omega)
            · have : t = n := by omega
              subst this
              simp only [Nat.le_refl, if_true, h, if_false]
              rw [a1]; exact h2
      exact gen V.length p hp
    obtain ⟨f, f1, f2, f3⟩ := walk
    have fw : ∀ s t, s ≤ t → t ≤ V.length → Walk E (t - s) (f s) (f t) := by
      intro s t hst ht
      obtain ⟨d, rfl⟩ : ∃ d, t = s + d := ⟨t - s, by omega⟩
      rw [show s + d - s = d by omega]
      clear hst
      induction d with
      | zero => exact rfl
      | succ d ih => exact ⟨f (s + d), ih (by omega), f3 (s + d) (by omega)⟩
    obtain ⟨s, t, hst, ht, hf⟩ : ∃ s t, s < t ∧ t ≤ V.length ∧ f s = f t := by
      refine Classical.byContradiction fun hno => ?_
      have hnd : ((List.range (V.length + 1)).map f).Nodup := nodup_map _ _ List.nodup_range fun x hx y hy e => by
        have hx := List.mem_range.1 hx
        have hy := List.mem_range.1 hy
        rcases Nat.lt_trichotomy x y with g | g | g
        · exact absurd ⟨x, y, g, by omega, e⟩ hno
        · exact g
        · exact absurd ⟨y, x, g, by omega, e.symm⟩ hno
      have := nodup_sub_len _ V hnd fun x hx => by
        obtain ⟨t, ht, rfl⟩ := List.mem_map.1 hx
        have ht := List.mem_range.1 ht
        have := f2 t (by omega)
        obtain ⟨n, hn⟩ : ∃ n, b + t = n + 1 := ⟨b + t - 1, by omega⟩
        rw [hn] at this
        exact hV n _ this
      simp only [List.length_map, List.length_range] at this
      omega
    have hfs := f2 s (by omega)
    have hsV : f s ∈ V := by
      obtain ⟨n, hn⟩ : ∃ n, b + s = n + 1 := ⟨b + s - 1, by omega⟩
      have := hfs
      rw [hn] at this
      exact hV n _ this
    have hcy : Cy (f s) := ⟨⟨t - s, by omega, by have := fw s t (by omega) ht; rwa [← hf] at this⟩, b + s, by omega, hfs⟩
    have h1 := hKP _ hsV hcy (b + s) (by omega) hfs
    have h2 := walk_on E S hS h1 (fw s V.length (by omega) (Nat.le_refl _))
    rw [f1, show b + s + P + (V.length - s) = (k + P) + l * (V.length + 1) by omega] at h2
    rwa [per (k + P) (by omega)] at h2
  refine ⟨i, P, hil, hP0, ?_, fun k hk => ?_⟩
  · refine Nat.le_trans hP3 (Nat.pow_le_pow_right (by decide) ?_)
    rw [List.length_map]
    exact List.length_filter_le _ _
  · funext p
    apply propext
    constructor
    · intro h
      have many : ∀ n, S (k + P) p → S (k + P + P * n) p := by
        intro n hp
        induction n with
        | zero => exact hp
        | succ n ih =>
          rw [show k + P + P * (n + 1) = (k + P + P * n) + P by rw [Nat.mul_succ]; omega]
          exact hsub _ (by omega) p ih
      have := many (l - 1) h
      rw [show k + P + P * (l - 1) = k + l * P by rw [Nat.mul_comm l P]; have : P * l = P * (l - 1) + P := by rw [← Nat.mul_succ]; congr 1; omega
                                                  omega, per k hk] at this
      exact this
    · exact hsub k hk p
end
end Go.Proofs.D
/-
  WHAT A RENAMED EXPRESSION MEANS.
-/
set_option linter.unusedVariables false
set_option linter.unusedSimpArgs false
namespace Go.Proofs.D
open Go Go.Abs
def phi (a b : ByteArray) (x : ByteArray) : ByteArray := if x = a then b else x
theorem rename_cnt (a b : ByteArray) (e : E) : (e.rename a b).cnt = e.cnt := by
  have hk : ∀ k ∈ e.kids, (k.rename a b).cnt = k.cnt := fun k hk => rename_cnt a b k
  rw [rename_eq, cnt_eq, cnt_eq e]
  show 1 + ((e.kids.map (E.rename a b)).map E.cnt).sum = _
  rw [List.map_map]
  congr 1
  congr 1
  exact List.map_congr_left hk
termination_by SizeOf.sizeOf e
decreasing_by exact E.kids_lt hk
theorem rename_small (a b : ByteArray) (hb : b.size ≤ 9223372036854775807) (e : E) (h : e.small) : (e.rename a b).small := by
  have hk : ∀ k ∈ e.kids, (k.rename a b).small := fun k hk => rename_small a b hb k (E.small_kids h k hk)
  rw [rename_eq]
  refine E.small_mk ?_ ?_
  · split
    · exact hb
    · exact E.small_name h
  · intro k hk'
    obtain ⟨x, hx, rfl⟩ := List.mem_map.1 hk'
    exact hk x hx
termination_by SizeOf.sizeOf e
decreasing_by exact E.kids_lt hk
theorem rename_back (a b : ByteArray) (e : E) (hok : e.ok = true) (hb : ¬ e.occ b) : (e.rename a b).rename b a = e := by
  by_cases h1 : e.op = 110
  · have hk : e.kids = [] := by
      rcases E.ok_ops hok with ⟨_, h⟩ | ⟨h, _⟩ | ⟨h, _⟩ | ⟨h, _⟩
      · exact h
      · omega
      · omega
      · omega
    have hn : e.name ≠ b := fun h => hb (by rw [occ_eq, if_pos h1]; exact h.symm)
    rw [rename_eq a b e, hk, rename_eq]
    obtain ⟨o, n, ks⟩ := e
    simp only [E.op, E.name, E.kids] at *
    subst hk
    subst h1
    by_cases hna : n = a
    · simp [hna]
    · simp [hna, hn]
  · have hk : ∀ k ∈ e.kids, (k.rename a b).rename b a = k := fun k hk => rename_back a b k (E.ok_kids hok h1 k hk).1 fun h => hb (by rw [occ_eq, if_neg h1]; exact ⟨k, hk, h⟩)
    rw [rename_eq a b e, rename_eq]
    obtain ⟨o, n, ks⟩ := e
    simp only [E.op, E.name, E.kids] at *
    simp only [h1, false_and, if_false, List.map_map]
    congr 1
    have : ∀ k ∈ ks, (E.rename b a ∘ E.rename a b) k = id k := fun k hk' => hk k hk'
    rw [List.map_congr_left this, List.map_id]
termination_by SizeOf.sizeOf e
decreasing_by exact E.kids_lt hk
theorem phi_inj {a b x y : ByteArray} (hx : x ≠ b) (hy : y ≠ b) (h : phi a b x = phi a b y) : x = y := by
  unfold phi at h
  by_cases h1 : x = a
  · by_cases h2 : y = a
    · rw [h1, h2]
    · rw [if_pos h1, if_neg h2] at h; exact absurd h.symm hy
  · by_cases h2 : y = a
    · rw [if_neg h1, if_pos h2] at h; exact absurd h hx
    · rwa [if_neg h1, if_neg h2] at h
theorem many_map (f : ByteArray → ByteArray) (good : ByteArray → Prop) (p q : Row → Prop) (h : ∀ w : Row, (∀ x ∈ w, good x) → (q (w.map f) ↔ p w)) (w : Row) (hw : ∀ x ∈ w, good x) : Many q (w.map f) ↔ Many p w := by
  constructor
  · intro hm
    have key : ∀ v, Many q v → ∀ w : Row, (∀ x ∈ w, good x) → v = w.map f → Many p w := by
      intro v hv
      induction hv with
      | one hq => intro w hw e; subst e; exact .one ((h w hw).1 hq)
      | more hq _ ih =>
        intro w hw e
        obtain ⟨u', v', rfl, rfl, rfl⟩ := List.map_eq_append_iff.1 e.symm
        exact .more ((h u' fun x hx => hw x (by simp [hx])).1 hq) (ih v' (fun x hx => hw x (by simp [hx])) rfl)
    exact key _ hm w hw rfl
  · intro hm
    induction hm with
    | one hp => exact .one ((h _ hw).2 hp)
    | more hp _ ih =>
      rw [List.map_append]
      exact .more ((h _ fun x hx => hw x (by simp [hx])).2 hp) (ih fun x hx => hw x (by simp [hx]))
theorem rename_L (a b : ByteArray) (e : E) (hok : e.ok = true) (hb : ¬ e.occ b) (w : Row) (hw : ∀ x ∈ w, x ≠ b) : (e.rename a b).L (w.map (phi a b)) ↔ e.L w := by
  have IH : ∀ k ∈ e.kids, ¬ e.op = 110 → ∀ w : Row, (∀ x ∈ w, x ≠ b) → ((k.rename a b).L (w.map (phi a b)) ↔ k.L w) := fun k hk hop w hw =>
    rename_L a b k (E.ok_kids hok hop k hk).1 (fun h => hb (by rw [occ_eq, if_neg hop]; exact ⟨k, hk, h⟩)) w hw
  have eop : (e.rename a b).op = e.op := by rw [rename_eq]; rfl
  have ekids : (e.rename a b).kids = e.kids.map (E.rename a b) := by rw [rename_eq]; rfl
  rcases E.ok_ops hok with ⟨h1, _⟩ | ⟨h1, _, _⟩ | ⟨h1, _, _⟩ | ⟨h1, _, k, h2, _⟩
  · have hn : e.name ≠ b := fun h => hb (by rw [occ_eq, if_pos h1]; exact h.symm)
    have en : (e.rename a b).name = phi a b e.name := by
      rw [rename_eq]
      show (if e.op = 110 ∧ e.name = a then b else e.name) = _
      simp [h1, phi]
    rw [L_one h1, L_one (eop.trans h1), en]
    constructor
    · intro h
      obtain ⟨x, rfl, hx⟩ := List.map_eq_singleton_iff.1 h
      rw [phi_inj (hw x (by simp)) hn hx]
    · intro h
      rw [h]; rfl
  · rw [L_seq h1, L_seq (eop.trans h1), ekids]
    have key : ∀ l : List E, (∀ k ∈ l, k ∈ e.kids) → ∀ w : Row, (∀ x ∈ w, x ≠ b) → (E.L.seqL (l.map (E.rename a b)) (w.map (phi a b)) ↔ E.L.seqL l w) := by
      intro l
      induction l with
      | nil => intro _ w _; simp [E.L.seqL]
      | cons y l ih =>
        intro hl w hw
        simp only [List.map_cons, E.L.seqL]
        constructor
        · rintro ⟨u, v, h, h1', h2'⟩
          obtain ⟨u', v', rfl, rfl, rfl⟩ := List.map_eq_append_iff.1 h
          exact ⟨u', v', rfl, (IH y (hl y (by simp)) (by omega) u' fun x hx => hw x (by simp [hx])).1 h1', (ih (fun k hk => hl k (by simp [hk])) v' fun x hx => hw x (by simp [hx])).1 h2'⟩
        · rintro ⟨u, v, rfl, h1', h2'⟩
          exact ⟨u.map (phi a b), v.map (phi a b), by rw [List.map_append], (IH y (hl y (by simp)) (by omega) u fun x hx => hw x (by simp [hx])).2 h1', (ih (fun k hk => hl k (by simp [hk])) v fun x hx => hw x (by simp [hx])).2 h2'⟩
    exact key e.kids (fun _ h => h) w hw
  · rw [L_alt h1, L_alt (eop.trans h1), ekids]
    have key : ∀ l : List E, (∀ k ∈ l, k ∈ e.kids) → (E.L.altL (l.map (E.rename a b)) (w.map (phi a b)) ↔ E.L.altL l w) := by
      intro l
      induction l with
      | nil => intro _; simp [E.L.altL]
      | cons y l ih =>
        intro hl
        simp only [List.map_cons, E.L.altL]
        exact or_congr (IH y (hl y (by simp)) (by omega) w hw) (ih fun k hk => hl k (by simp [hk]))
    exact key e.kids (fun _ h => h)
  · have hk : ∀ w : Row, (∀ x ∈ w, x ≠ b) → (E.L.headL ([k].map (E.rename a b)) (w.map (phi a b)) ↔ E.L.headL [k] w) := fun w hw => IH k (by rw [h2]; simp) (by omega) w hw
    have hnil : w.map (phi a b) = [] ↔ w = [] := by simp
    by_cases h63 : e.op = 63
    · rw [L_opt h63, L_opt (eop.trans h63), ekids, h2]
      exact or_congr hnil (hk w hw)
    · have h42 : e.op = 42 ∨ e.op = 43 := by omega
      rw [L_rep h42, L_rep (by rw [eop]; exact h42), ekids, h2, eop]
      exact or_congr (and_congr Iff.rfl hnil) (many_map _ _ _ _ hk w hw)
termination_by SizeOf.sizeOf e
decreasing_by exact E.kids_lt hk
theorem rename_has (a b : ByteArray) {e : E} (hr : e.right = true) (hr' : (e.rename a b).right = true) (hb : b ∉ e.names) (w : Row) (hw : ∀ x ∈ w, x ≠ b) : (e.rename a b).has (w.map (phi a b)) = e.has w := by
  have hok : e.ok = true := by simp [E.right] at hr; exact hr.2
  rw [Bool.eq_iff_iff, has_iff hr', has_iff hr]
  exact rename_L a b e hok (fun h => hb ((names_mem e b).2 h)) w hw
end Go.Proofs.D
/-
  THE ANSWER'S TABLE: sets of places, classes by turns, numbered: it is the least one, too.
-/
set_option linter.unusedVariables false
set_option linter.unusedSimpArgs false
namespace Go.Proofs.D
open Go Go.Abs
def plOf (e : E) : Pr := e.pl ⟨[], []⟩
def Pr.en (r : Pr) : Nat := r.pl.names.length
def beginR (r : Pr) : List Nat := if r.empty = true then putN r.first [r.en] else r.first
/-- One place: what may come behind it. -/
def nextX (r : Pr) (a : ByteArray) (s : List Nat) (x : Nat) : List Nat :=
  if r.pl.names[x]? = some a then (if x ∈ r.last then putN (putN s (r.pl.behind.getD x [])) [r.en] else putN s (r.pl.behind.getD x [])) else s
def nextR (r : Pr) (a : ByteArray) (S : List Nat) : List Nat := S.foldl (nextX r a) []
def fR (r : Pr) (N : List ByteArray) (S : List Nat) : List (Option (List Nat)) := N.map fun a => some (nextR r a S)
def setM (r : Pr) (N : List ByteArray) (i : Nat) : List (List Nat) × List (List Int) := met id (fR r N) (beginR r) i
def finR (r : Pr) (S : List Nat) : Bool := decide (r.en ∈ S)
def setA (r : Pr) (N : List ByteArray) (W : Nat) : Au := ⟨N, (setM r N W).2, (setM r N W).1.map (finR r)⟩
def LS (r : Pr) (S : List Nat) : Row → Prop
  | [] => r.en ∈ S
  | a :: w => ∃ x ∈ S, r.pl.names[x]? = some a ∧ PathF (fun x => r.pl.names[x]?) (· ∈ r.last) (fun x y => y ∈ r.pl.behind.getD x []) x w
/-- A set of places, the end among them, it may be. -/
def VS (r : Pr) (S : List Nat) : Prop := Rises S ∧ ∀ x ∈ S, x ≤ r.en
theorem mem_nextX (r : Pr) (a : ByteArray) (s : List Nat) (x y : Nat) : y ∈ nextX r a s x ↔ y ∈ s ∨ (r.pl.names[x]? = some a ∧ (y ∈ r.pl.behind.getD x [] ∨ (x ∈ r.last ∧ y = r.en))) := by
  unfold nextX
  split
  · rename_i hn
    split
    · rename_i hx
      rw [mem_put, mem_put]
      simp [hn, hx]
      exact or_assoc
    · rename_i hx
      rw [mem_put]
      simp [hn, hx]
  · rename_i hn
    simp [hn]
section
variable {r : Pr} {L : Row → Prop} (h : Good 0 r L)
include h
theorem nextX_rises (a : ByteArray) (s : List Nat) (x : Nat) (hs : Rises s) : Rises (nextX r a s x) := by
  unfold nextX
  split
  · split
    · exact put_rises (put_rises hs (h.br x (Nat.zero_le _))) (by simp)
    · exact put_rises hs (h.br x (Nat.zero_le _))
  · exact hs
theorem fold_next (a : ByteArray) : ∀ (S s : List Nat), Rises s → Rises (S.foldl (nextX r a) s) ∧ ∀ y, y ∈ S.foldl (nextX r a) s ↔ y ∈ s ∨ ∃ x ∈ S, r.pl.names[x]? = some a ∧ (y ∈ r.pl.behind.getD x [] ∨ (x ∈ r.last ∧ y = r.en))
  | [], s, hs => ⟨hs, fun y => by simp⟩
  | x :: S, s, hs => by
    obtain ⟨h1, h2⟩ := fold_next a S (nextX r a s x) (nextX_rises h a s x hs)
    rw [List.foldl_cons]
    refine ⟨h1, fun y => ?_⟩
    rw [h2 y, mem_nextX r]
    constructor
    · rintro ((q | q) | ⟨z, hz, q⟩)
      · exact .inl q
      · exact .inr ⟨x, by simp, q⟩
      · exact .inr ⟨z, by simp [hz], q⟩
    · rintro (q | ⟨z, hz, q⟩)
      · exact .inl (.inl q)
      · rcases List.mem_cons.1 hz with rfl | hz
        · exact .inl (.inr q)
        · exact .inr ⟨z, hz, q⟩
theorem next_vs (a : ByteArray) (S : List Nat) : VS r (nextR r a S) := by
  obtain ⟨h1, h2⟩ := fold_next h a S [] (by simp)
  refine ⟨h1, fun y hy => ?_⟩
  rcases (h2 y).1 hy with q | ⟨x, _, _, q | ⟨_, q⟩⟩
  · cases q
  · have := (h.bb x (Nat.zero_le _) y q).2
    unfold Pr.en; omega
  · omega
theorem begin_vs : VS r (beginR r) := by
  unfold beginR
  split
  · refine ⟨put_rises h.fr (by simp), fun x hx => ?_⟩
    rcases (mem_put x _ _).1 hx with hx | hx
    · have := (h.fb x hx).2; unfold Pr.en; omega
    · simp at hx; omega
  · exact ⟨h.fr, fun x hx => by have := (h.fb x hx).2; unfold Pr.en; omega⟩
theorem LS_next (a : ByteArray) (S : List Nat) (w : Row) : LS r (nextR r a S) w ↔ LS r S (a :: w) := by
  obtain ⟨_, h2⟩ := fold_next h a S [] (by simp)
  cases w with
  | nil =>
    show r.en ∈ nextR r a S ↔ _
    rw [show (r.en ∈ nextR r a S) = (r.en ∈ S.foldl (nextX r a) []) from rfl, h2]
    simp only [LS, PathF, List.not_mem_nil, false_or]
    constructor
    · rintro ⟨x, hx, hn, q | ⟨q, _⟩⟩
      · have := (h.bb x (Nat.zero_le _) _ q).2
        exact absurd this (by unfold Pr.en; omega)
      · exact ⟨x, hx, hn, q⟩
    · rintro ⟨x, hx, hn, q⟩
      exact ⟨x, hx, hn, .inr ⟨q, trivial⟩⟩
  | cons b w =>
    simp only [LS, PathF]
    constructor
    · rintro ⟨y, hy, hny, q⟩
      rcases (h2 y).1 hy with q' | ⟨x, hx, hn, q' | ⟨_, q'⟩⟩
      · cases q'
      · exact ⟨x, hx, hn, y, q', hny, q⟩
      · subst q'
        exfalso
        unfold Pr.en at hny
        simp at hny
    · rintro ⟨x, hx, hn, y, q', hny, q⟩
      exact ⟨y, (h2 y).2 (.inr ⟨x, hx, hn, .inl q'⟩), hny, q⟩
theorem LS_begin (w : Row) : LS r (beginR r) w ↔ L w := by
  rw [h.mean (fun x => r.pl.names[x]?) (fun _ _ _ => rfl) w]
  have hf : r.en ∉ r.first := fun q => by have := (h.fb _ q).2; unfold Pr.en at this; omega
  cases w with
  | nil =>
    simp only [LS, LG]
    unfold beginR
    split
    · rename_i he; rw [mem_put]; simp [he]
    · rename_i he
      simp only [he]
      exact ⟨fun q => absurd q hf, fun q => by cases q⟩
  | cons a w =>
    simp only [LS, LG]
    constructor
    · rintro ⟨x, hx, hn, q⟩
      refine ⟨x, ?_, hn, q⟩
      unfold beginR at hx
      split at hx
      · rcases (mem_put x _ _).1 hx with hx | hx
        · exact hx
        · simp at hx
          subst hx
          unfold Pr.en at hn
          simp at hn
      · exact hx
    · rintro ⟨x, hx, hn, q⟩
      refine ⟨x, ?_, hn, q⟩
      unfold beginR
      split
      · exact (mem_put x _ _).2 (.inl hx)
      · exact hx
theorem LS_live {S : List Nat} (hS : VS r S) (hne : S ≠ []) : ∃ w, LS r S w := by
  obtain ⟨x, l, rfl⟩ := List.exists_cons_of_ne_nil hne
  have hx := hS.2 x (by simp)
  by_cases he : x = r.en
  · exact ⟨[], by simp [LS, he]⟩
  · have hlt : x < r.pl.names.length := by unfold Pr.en at hx he; omega
    obtain ⟨w, hw⟩ := h.live (fun x => r.pl.names[x]?) (fun _ _ _ => rfl) x (Nat.zero_le _) hlt
    exact ⟨r.pl.names[x] :: w, x, by simp, by simp, hw⟩
theorem setM_vs (N : List ByteArray) (i : Nat) : ∀ S ∈ (setM r N i).1, VS r S := by
  refine met_all _ _ _ (VS r) (begin_vs h) (fun S _ T hT => ?_) i
  obtain ⟨a, _, e⟩ := List.mem_map.1 hT
  cases e
  exact next_vs h a S
theorem setM_len (hen : r.en ≤ 23) (N : List ByteArray) (i : Nat) : (setM r N i).1.length ≤ BW := by
  have hM := met_is id (fR r N) (beginR r) i
  have hn := hM.nodup
  rw [List.map_id] at hn
  have hv := setM_vs h N i
  have h1 := sets_len (List.range (r.en + 1)) ((setM r N i).1.map fun S => fun x => x ∈ S) (nodup_map _ _ hn fun S hS T hT e => rises_eq S T (hv S hS).1 (hv T hT).1 fun x => by rw [show (x ∈ S) = (x ∈ T) from congrFun e x]) (fun P hP x hx => by
    obtain ⟨S, hS, rfl⟩ := List.mem_map.1 hP
    have := (hv S hS).2 x hx
    simp
    omega)
  rw [List.length_map, List.length_range] at h1
  have h3 : 2 ^ (r.en + 1) ≤ 2 ^ 24 := Nat.pow_le_pow_right (by decide) (by omega)
  have : 2 ^ 24 = BW := rfl
  omega
end
theorem setM_facts {r : Pr} {L : Row → Prop} (h : Good 0 r L) (hen : r.en ≤ 23) (N : List ByteArray) (W : Nat) (hW : W = BW) : (setM r N W).2.length = (setM r N W).1.length ∧ (setM r N W).1.Nodup := by
  have hM : Met id (fR r N) (beginR r) W (setM r N W).1 (setM r N W).2 := met_is _ _ _ _
  have hlen := setM_len h hen N W
  generalize setM r N W = M at hM hlen ⊢
  have hnd := hM.nodup
  rw [List.map_id] at hnd
  exact ⟨by rcases hM.many with h | h <;> omega, hnd⟩
def setL (r : Pr) (N : List ByteArray) (W : Nat) (i : Nat) (w : Row) : Prop := ∃ S, (setM r N W).1[i]? = some S ∧ LS r S w
theorem setA_sem {r : Pr} {L : Row → Prop} (h : Good 0 r L) (hen : r.en ≤ 23) (N : List ByteArray) (W : Nat) (hW : W = BW) (hN : ∀ x ∈ r.pl.names, x ∈ N) : Sem0 (setA r N W) (setL r N W) ∧ (∀ w, setL r N W 0 w ↔ L w) ∧ (∀ i, i < (setA r N W).next.length → ∀ a ∈ N, 0 ≤ (setA r N W).stp i a) ∧
    (∀ i S, (setM r N W).1[i]? = some S → S ≠ [] → ∃ w, setL r N W i w) := by
  have hM : Met id (fR r N) (beginR r) W (setM r N W).1 (setM r N W).2 := met_is id (fR r N) (beginR r) W
  have hlen := setM_len h hen N W
  have hvs := setM_vs h N W
  unfold setA setL
  generalize setM r N W = M at hM hlen hvs
  obtain ⟨all, rows⟩ := M
  simp only at hM hlen hvs ⊢
  have h0 := met_pos _ _ _ hM
  have hrl : rows.length = all.length := by rcases hM.many with h | h <;> omega
  have hat : ∀ i, i < all.length → ∃ S t, all[i]? = some S ∧ rows[i]? = some t := fun i hi => ⟨all[i], rows[i]'(by omega), by simp, by simp⟩
  have hst : ∀ (i : Nat) (S : List Nat) (t : List Int), all[i]? = some S → rows[i]? = some t → ∀ a ∈ N, ∃ m : Nat, (Au.mk N rows (all.map (finR r))).stp i a = m ∧ all[m]? = some (nextR r a S) := by
    intro i S t hS ht a ha
    obtain ⟨g1, g2⟩ := hM.row i S t hS ht
    have hix := ixK_mem ha
    have hil : ixK a N < t.length := by rw [g1, fR, List.length_map]; exact ixK_lt ha
    obtain ⟨m, e, hm⟩ := g2 (ixK a N) (some (nextR r a S)) t[ixK a N] (by simp [fR, hix]) (by simp [hil])
    rw [List.map_id] at hm
    refine ⟨m, ?_, hm⟩
    simp only [Au.stp]
    rw [if_neg (by omega), Int.toNat_natCast, ht, Option.getD_some, ← e]
    simp [List.getD, hil]
  refine ⟨⟨?_, ?_, ?_, ?_, ?_, ?_⟩, ?_, ?_, ?_⟩
  · show 0 < rows.length
    omega
  · show (all.map (finR r)).length = rows.length
    rw [List.length_map, hrl]
  · intro t ht
    obtain ⟨i, hi⟩ := List.getElem?_of_mem ht
    have hil := (List.getElem?_eq_some_iff.1 hi).1
    have := (hM.row i all[i] t (by simp) hi).1
    rw [this, fR, List.length_map]
  · intro i hi
    have hi : i < rows.length := hi
    obtain ⟨S, t, hS, ht⟩ := hat i (by omega)
    have e : (all.map (finR r)).getD i false = finR r S := by simp [List.getD, hS]
    show (all.map (finR r)).getD i false = true ↔ _
    rw [e]
    unfold finR
    rw [decide_eq_true_iff]
    exact ⟨fun q => ⟨S, hS, q⟩, fun ⟨S', hS', q⟩ => by rw [hS] at hS'; cases hS'; exact q⟩
  · intro i hi a ha
    have hi : i < rows.length := hi
    obtain ⟨S, t, hS, ht⟩ := hat i (by omega)
    obtain ⟨m, e, hm⟩ := hst i S t hS ht a ha
    have hml := (List.getElem?_eq_some_iff.1 hm).1
    refine .inr ⟨m, e, by show m < rows.length; omega, fun w => ?_⟩
    constructor
    · rintro ⟨S', hS', q⟩
      rw [hS] at hS'
      cases hS'
      exact ⟨_, hm, (LS_next h a S w).2 q⟩
    · rintro ⟨S', hS', q⟩
      rw [hm] at hS'
      cases hS'
      exact ⟨S, hS, (LS_next h a S w).1 q⟩
  · rintro i hi a w ⟨S, hS, x, hx, hn, _⟩
    exact hN a (List.mem_of_getElem? hn)
  · intro w
    constructor
    · rintro ⟨S, hS, q⟩
      rw [hM.first] at hS
      cases hS
      exact (LS_begin h w).1 q
    · exact fun q => ⟨_, hM.first, (LS_begin h w).2 q⟩
  · intro i hi a ha
    have hi : i < rows.length := hi
    obtain ⟨S, t, hS, ht⟩ := hat i (by omega)
    obtain ⟨m, e, _⟩ := hst i S t hS ht a ha
    show 0 ≤ (Au.mk N rows (all.map (finR r))).stp i a
    omega
  · intro i S hS hne
    obtain ⟨w, hw⟩ := LS_live h (hvs S (List.mem_of_getElem? hS)) hne
    exact ⟨w, S, hS, hw⟩
/-! ### classes by turns -/
def clsN (d : Au) : Nat → List Int
  | 0 => cls0 d
  | k + 1 => (relab (signs d (clsN d k))).1
theorem even_total {d : Au} {L : Nat → Row → Prop} (ht : ∀ i, i < d.next.length → ∀ a ∈ d.names, 0 ≤ d.stp i a) : Even d L := fun i j hi hj a ha _ => by
  have h1 := ht i hi a ha
  have h2 := ht j hj a ha
  omega
theorem clsN_exact {d : Au} {L : Nat → Row → Prop} (h : Sem0 d L) (hn : d.names.Nodup) (hz : Even d L) : Exact d L (clsN d d.next.length) := by
  have key : ∀ k, ∃ many, Cls d L (clsN d k) many ∧ (k ≤ many ∨ Exact d L (clsN d k)) := by
    intro k
    induction k with
    | zero => exact ⟨0, cls_start h, .inl (Nat.le_refl _)⟩
    | succ k ih =>
      obtain ⟨many, hC, hk⟩ := ih
      obtain ⟨c1, c2, c3, c4, c5, c6⟩ := cls_round h hn hz hC
      refine ⟨_, c1, ?_⟩
      rcases hk with hk | hk
      · by_cases he : (relab (signs d (clsN d k))).2 = many
        · exact .inr (c5 he).1
        · exact .inl (by omega)
      · exact .inr fun i j hi hj => ⟨fun q => (hk i j hi hj).1 (c6 i j hi hj q), fun q => c1.alike i j hi hj q⟩
  obtain ⟨many, hC, hk⟩ := key d.next.length
  rcases hk with hk | hk
  · obtain ⟨c1, c2, c3, c4, c5, c6⟩ := cls_round h hn hz hC
    exact (c5 (by omega)).2
  · exact hk
/-- What leads to a dead state leads nowhere. -/
def cutD (d : Au) (C : List Int) (dead : Int) : Au := ⟨d.names, d.next.map fun r => r.map fun t => if 0 ≤ dead ∧ C.getD t.toNat 0 = C.getD dead.toNat 0 then -1 else t, d.final⟩
theorem cutD_stp (d : Au) (C : List Int) (dead : Int) (s : Int) (a : ByteArray) (ha : 0 ≤ d.stp s a) : (cutD d C dead).stp s a = if 0 ≤ dead ∧ C.getD (d.stp s a).toNat 0 = C.getD dead.toNat 0 then -1 else d.stp s a := by
  unfold Au.stp at ha ⊢
  simp only [cutD]
  by_cases hs : s < 0
  · rw [if_pos hs] at ha; omega
  · simp only [if_neg hs] at ha ⊢
    rw [List.getElem?_map]
    cases hr : d.next[s.toNat]? with
    | none => rw [hr] at ha; simp at ha
    | some r =>
      rw [hr] at ha
      simp only [Option.map_some, Option.getD_some] at ha ⊢
      simp only [List.getD, List.getElem?_map] at ha ⊢
      by_cases hx : ∃ t, r[ixK a d.names]? = some t
      · obtain ⟨t, hx⟩ := hx
        simp only [hx, Option.map_some, Option.getD_some]
        congr
      · have hx' : r[ixK a d.names]? = none := by
          cases hq : r[ixK a d.names]? with
          | none => rfl
          | some t => exact absurd ⟨t, hq⟩ hx
        rw [hx'] at ha
        simp at ha
theorem cutD_least {d : Au} {L : Nat → Row → Prop} (h : Sem0 d L) (hn : d.names.Nodup) (ht : ∀ i, i < d.next.length → ∀ a ∈ d.names, 0 ≤ d.stp i a) {C : List Int} (hC : Exact d L C) {dead : Int} (hd : (0 ≤ dead → dead.toNat < d.next.length ∧ ∀ w, ¬ L dead.toNat w)) (hlive : ∀ i, i < d.next.length → (i : Int) ≠ dead → ∃ w, L i w) (h0 : ∃ w, L 0 w) :
    Least (numbered (cutD d C dead) C) (numL (cutD d C dead) C L) ∧ ∀ w, numL (cutD d C dead) C L 0 w ↔ L 0 w := by
  have hlen : (cutD d C dead).next.length = d.next.length := by simp [cutD]
  have hstp : ∀ i, i < d.next.length → ∀ a ∈ d.names, (cutD d C dead).stp i a = if 0 ≤ dead ∧ C.getD (d.stp i a).toNat 0 = C.getD dead.toNat 0 then -1 else d.stp i a := fun i hi a ha => cutD_stp d C dead i a (ht i hi a ha)
  have hSem : Sem0 (cutD d C dead) L := by
    refine ⟨by rw [hlen]; exact h.pos, by rw [hlen]; exact h.len, fun r hr => ?_, fun i hi => h.fin i (hlen ▸ hi), fun i hi a ha => ?_, fun i hi => h.only i (hlen ▸ hi)⟩
    · obtain ⟨r', hr', rfl⟩ := List.mem_map.1 hr
      rw [List.length_map]
      exact h.row r' hr'
    · rw [hlen] at hi
      rw [hstp i hi a ha, hlen]
      rcases h.step i hi a ha with ⟨e, _⟩ | ⟨m, e, hm, hL⟩
      · have := ht i hi a ha; omega
      · rw [e, Int.toNat_natCast]
        by_cases hc : 0 ≤ dead ∧ C.getD m 0 = C.getD dead.toNat 0
        · rw [if_pos hc]
          obtain ⟨d1, d2⟩ := hd hc.1
          have := (hC m dead.toNat hm d1).1 hc.2
          exact .inl ⟨rfl, fun w q => d2 w ((this w).1 ((hL w).1 q))⟩
        · rw [if_neg hc]
          exact .inr ⟨m, rfl, hm, hL⟩
  have hEx : Exact (cutD d C dead) L C := fun i j hi hj => hC i j (hlen ▸ hi) (hlen ▸ hj)
  refine numbered_least0 hSem hn hEx fun s hs => ?_
  refine met_all _ _ _ (fun s => s < d.next.length ∧ ∃ w, L s w) ⟨h.pos, h0⟩ (fun s hs t ht' => ?_) _ s hs |>.2
  obtain ⟨x, hx, e⟩ := List.mem_map.1 ht'
  split at e
  · cases e
  · rename_i hneg
    cases e
    have e1 : (cutD d C dead).next[s]? = some ((cutD d C dead).next[s]'(by rw [hlen]; exact hs.1)) := by simp
    rw [e1, Option.getD_some] at hx
    obtain ⟨k, hk⟩ := List.getElem?_of_mem hx
    have hkl := (List.getElem?_eq_some_iff.1 hk).1
    have hkn : k < d.names.length := by
      have := hSem.row _ (List.getElem_mem (h := (by rw [hlen]; exact hs.1 : s < (cutD d C dead).next.length)))
      rw [this] at hkl
      exact hkl
    have := getRow hSem hn e1 (show (cutD d C dead).names[k]? = some d.names[k] by simp [cutD])
    rw [hk] at this
    have hxe := Option.some.inj this
    rw [hstp s hs.1 _ (List.getElem_mem _)] at hxe
    by_cases hc : 0 ≤ dead ∧ C.getD (d.stp s d.names[k]).toNat 0 = C.getD dead.toNat 0
    · rw [if_pos hc] at hxe; omega
    · rw [if_neg hc] at hxe
      have hxl : x.toNat < d.next.length := by
        rcases h.step s hs.1 d.names[k] (List.getElem_mem _) with ⟨e, _⟩ | ⟨m, e, hm, _⟩
        · omega
        · rw [hxe, e]; simpa using hm
      refine ⟨hxl, hlive _ hxl fun e => hc ⟨by omega, ?_⟩⟩
      rw [← hxe, ← e, Int.toNat_natCast]
/-- Which state is dead; below 0: none. -/
def deadN : List (List Nat) → Nat → Int → Int
  | [], _, d => d
  | S :: l, i, d => deadN l (i + 1) (if S.length = 0 then (i : Int) else d)
theorem deadN_spec : ∀ (l : List (List Nat)) (i : Nat) (d : Int), deadN l i d = d ∧ (∀ S ∈ l, S ≠ []) ∨ ∃ j : Nat, deadN l i d = ((i + j : Nat) : Int) ∧ l[j]? = some []
  | [], i, d => .inl ⟨rfl, fun S h => by cases h⟩
  | S :: l, i, d => by
    rw [deadN]
    rcases deadN_spec l (i + 1) (if S.length = 0 then (i : Int) else d) with ⟨e, h⟩ | ⟨j, e, h⟩
    · by_cases hS : S.length = 0
      · rw [if_pos hS] at e ⊢
        exact .inr ⟨0, by rw [e]; rfl, by rw [List.eq_nil_of_length_eq_zero hS]; rfl⟩
      · rw [if_neg hS] at e ⊢
        refine .inl ⟨e, fun T hT => ?_⟩
        rcases List.mem_cons.1 hT with rfl | hT
        · exact fun q => hS (by rw [q]; rfl)
        · exact h T hT
    · exact .inr ⟨j + 1, by rw [e]; congr 1; omega, by simpa using h⟩
def refA (e : E) (N : List ByteArray) (W : Nat) : Au := numbered (cutD (setA (plOf e) N W) (clsN (setA (plOf e) N W) (setA (plOf e) N W).next.length) (deadN (setM (plOf e) N W).1 0 (-1))) (clsN (setA (plOf e) N W) (setA (plOf e) N W).next.length)
theorem refA_least (e : E) (hok : e.ok = true) (hc : e.cnt ≤ 24) (N : List ByteArray) (W : Nat) (hW : W = BW) (hN : N.Nodup) (hNm : ∀ x, x ∈ N ↔ e.occ x) : ∃ L, Least (refA e N W) L ∧ ∀ w, L 0 w ↔ e.L w := by
  obtain ⟨hg, _⟩ := pl_good e hok ⟨[], []⟩ rfl
  have hg : Good 0 (plOf e) e.L := hg
  obtain ⟨hl, hm⟩ := pl_len e ⟨[], []⟩
  have hl : (plOf e).en = 0 + e.leaves := hl
  have h23 : e.leaves ≤ 23 := by
    have h2 := leaves_le e
    by_cases h : e.op = 110
    · have : e.leaves = 1 := by rw [leaves_eq, if_pos h]
      omega
    · rcases h2.2 with h2 | h2 <;> omega
  obtain ⟨s1, s2, s3, s4⟩ := setA_sem hg (by omega) N W hW fun x hx => (hNm x).2 (by
    rcases hm x hx with q | q
    · cases q
    · exact q)
  have hex := clsN_exact s1 hN (even_total s3)
  obtain ⟨hrl, hnd⟩ := setM_facts hg (by omega) N W hW
  have hnl : (setA (plOf e) N W).next.length = (setM (plOf e) N W).1.length := by simp only [setA]; exact hrl
  have hempty : ∀ w, ¬ LS (plOf e) [] w := fun w q => by
    cases w with
    | nil => cases q
    | cons a w => obtain ⟨x, hx, _⟩ := q; cases hx
  have hdead := deadN_spec (setM (plOf e) N W).1 0 (-1)
  obtain ⟨L1, L2⟩ := cutD_least (dead := deadN (setM (plOf e) N W).1 0 (-1)) s1 hN s3 hex (fun h0 => by
      rcases hdead with ⟨e', _⟩ | ⟨j, e', hj⟩
      · omega
      · have hjl := (List.getElem?_eq_some_iff.1 hj).1
        rw [e']
        simp only [Nat.zero_add, Int.toNat_natCast]
        refine ⟨by omega, ?_⟩
        rintro w ⟨S, hS, q⟩
        rw [hj] at hS
        cases hS
        exact hempty w q)
    (fun i hi hne => by
      rw [hnl] at hi
      have hS : (setM (plOf e) N W).1[i]? = some (setM (plOf e) N W).1[i] := by simp
      refine s4 i _ hS fun q => ?_
      rw [q] at hS
      rcases hdead with ⟨_, e'⟩ | ⟨j, e', hj⟩
      · exact e' [] (List.mem_of_getElem? hS) rfl
      · obtain ⟨x1, x2⟩ := List.getElem?_eq_some_iff.1 hS
        obtain ⟨y1, y2⟩ := List.getElem?_eq_some_iff.1 hj
        have : i = j := by
          rcases Nat.lt_trichotomy i j with g | g | g
          · exact absurd (x2.trans y2.symm) (List.pairwise_iff_getElem.1 hnd _ _ x1 y1 g)
          · exact g
          · exact absurd (y2.trans x2.symm) (List.pairwise_iff_getElem.1 hnd _ _ y1 x1 g)
        exact hne (by rw [e', this]; simp))
    (by obtain ⟨w, hw⟩ := L_some e hok; exact ⟨w, (s2 w).2 hw⟩)
  exact ⟨_, L1, fun w => (L2 w).trans (s2 w)⟩
end Go.Proofs.D
/-
  PLACES: what the walk must know of them.
-/
set_option linter.unusedVariables false
set_option linter.unusedSimpArgs false
namespace Go.Proofs.D
open Go Go.Abs
def Under (n : Nat) (l : List Nat) : Prop := Rises l ∧ ∀ x ∈ l, x < n
theorem Under.mono {n m : Nat} {l : List Nat} (h : Under n l) (hm : n ≤ m) : Under m l := ⟨h.1, fun x hx => Nat.lt_of_lt_of_le (h.2 x hx) hm⟩
theorem under_nil (n : Nat) : Under n [] := ⟨List.Pairwise.nil, fun x hx => by cases hx⟩
theorem Under.put {n : Nat} {l k : List Nat} (h : Under n l) (h' : Under n k) : Under n (putN l k) := ⟨put_rises h.1 h'.1, fun x hx => ((mem_put x l k).1 hx).elim (h.2 x) (h'.2 x)⟩
theorem Under.len {n : Nat} {l : List Nat} (h : Under n l) : l.length ≤ n := by
  have := nodup_sub_len l (List.range n) (nodup_rises h.1) fun x hx => List.mem_range.2 (h.2 x hx)
  simpa using this
structure WkP (P : Pl) : Prop where
  len : P.behind.length = P.names.length
  bh : ∀ b ∈ P.behind, Under P.names.length b
structure Wk (r : Pr) : Prop where
  pl : WkP r.pl
  first : Under r.pl.names.length r.first
  last : Under r.pl.names.length r.last
theorem under_getD {n : Nat} {B : List (List Nat)} (h : ∀ b ∈ B, Under n b) (x : Nat) : Under n (B.getD x []) := by
  simp only [List.getD]
  cases hb : B[x]? with
  | none => exact under_nil n
  | some b => exact h b (List.mem_of_getElem? hb)
theorem updB_under {n : Nat} {f : List Nat} (hf : Under n f) : ∀ (l : List Nat) (B : List (List Nat)), (∀ b ∈ B, Under n b) → ∀ b ∈ updB B l f, Under n b
  | [], B, h => h
  | x :: l, B, h => by
    have := updB_under hf l (B.set x (putN (B.getD x []) f)) fun b hb => by
      rcases List.mem_or_eq_of_mem_set hb with hb | rfl
      · exact h b hb
      · exact (under_getD h x).put hf
    exact this
theorem updB_snoc (B : List (List Nat)) (l : List Nat) (x : Nat) (f : List Nat) : updB B (l ++ [x]) f = (updB B l f).set x (putN ((updB B l f).getD x []) f) := by
  simp [updB, List.foldl_append]
theorem wk_step (op : Int) {st r : Pr} (h : Wk st) (hr : Wk r) (hle : st.pl.names.length ≤ r.pl.names.length) : Wk (plStep op st r) := by
  have f1 := h.first.mono hle
  have l1 := h.last.mono hle
  unfold plStep
  split
  · exact ⟨hr.pl, f1.put hr.first, l1.put hr.last⟩
  · refine ⟨⟨by simp only [updB_len]; exact hr.pl.len, updB_under hr.first _ _ hr.pl.bh⟩, ?_, ?_⟩
    · dsimp only
      split
      · exact f1.put hr.first
      · exact f1
    · dsimp only
      split
      · exact l1.put hr.last
      · exact hr.last
theorem wk_end (op : Int) {st : Pr} (h : Wk st) : Wk (plEnd op st) := by
  refine ⟨⟨?_, ?_⟩, h.first, h.last⟩
  · dsimp only [plEnd]
    split
    · rw [updB_len]; exact h.pl.len
    · exact h.pl.len
  · dsimp only [plEnd]
    split
    · exact updB_under h.first _ _ h.pl.bh
    · exact h.pl.bh
theorem wk_start {P : Pl} (h : WkP P) (b : Bool) : Wk ⟨P, [], [], b⟩ := ⟨h, under_nil _, under_nil _⟩
theorem names_step (op : Int) (st r : Pr) : (plStep op st r).pl.names = r.pl.names := by unfold plStep; split <;> rfl
theorem pl_wk (e : E) (P : Pl) (h : WkP P) : Wk (e.pl P) := by
  have hk : ∀ k ∈ e.kids, ∀ Q : Pl, WkP Q → Wk (k.pl Q) := fun k hk Q hQ => pl_wk k Q hQ
  rw [pl_eq]
  split
  · refine ⟨⟨by simp [h.len], fun b hb => ?_⟩, ?_, ?_⟩
    · rcases List.mem_append.1 hb with hb | hb
      · exact (h.bh b hb).mono (by simp)
      · simp at hb; rw [hb]; exact under_nil _
    · exact ⟨List.pairwise_singleton _ _, fun x hx => by simp at hx; simp [hx]⟩
    · exact ⟨List.pairwise_singleton _ _, fun x hx => by simp at hx; simp [hx]⟩
  · refine wk_end _ ?_
    have : ∀ (l : List E), (∀ k ∈ l, ∀ Q : Pl, WkP Q → Wk (k.pl Q)) → ∀ st, Wk st → Wk (E.pl.go e.op l st) := by
      intro l
      induction l with
      | nil => intro _ st hs; exact hs
      | cons k l ih =>
        intro hl st hs
        rw [E.pl.go]
        exact ih (fun x hx => hl x (by simp [hx])) _ (wk_step _ hs (hl k (by simp) _ hs.pl) (by have := (pl_len k st.pl).1; omega))
    exact this e.kids hk _ (wk_start h _)
termination_by SizeOf.sizeOf e
decreasing_by exact E.kids_lt hk
end Go.Proofs.D
