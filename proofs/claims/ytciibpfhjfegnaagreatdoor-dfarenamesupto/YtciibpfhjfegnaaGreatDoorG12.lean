/-
  HOW MANY PAIRS OF STATES TWO EXPRESSIONS HAVE, at most.
-/
import Derived.Test.YtciibpfhjfegnaaGreatDoorF7
import Derived.Test.YtciibpfhjfegnaaGreatDoorG5
set_option linter.unusedVariables false
set_option linter.unusedSimpArgs false
namespace Go.Proofs.D
open Go Go.Abs
/-- What is left behind a row. -/
def der (S : Stt) (w : Row) : Stt := w.foldl (fun S a => stepS a S) S
theorem der_append (S : Stt) (u v : Row) : der S (u ++ v) = der (der S u) v := by simp [der]
theorem der_snoc (S : Stt) (u : Row) (y : ByteArray) : der S (u ++ [y]) = stepS y (der S u) := by simp [der]
theorem der_sub {e : E} {S : Stt} (h : ∀ r, S r → r ∈ pdAll e) : ∀ (w : Row), ∀ r, der S w r → r ∈ pdAll e := by
  intro w
  induction w generalizing S with
  | nil => exact h
  | cons a w ih =>
    refine ih (S := stepS a S) fun x hx => ?_
    obtain ⟨r, hr, hx⟩ := hx
    obtain ⟨h1, h2⟩ := pdAll_step a r (h r hr) x hx
    simp only [pdAll, List.mem_cons, List.mem_flatMap]
    exact .inr ⟨a, h2, h1⟩
theorem one_sub (e : E) : ∀ r, one e r → r ∈ pdAll e := fun r h => by rw [show r = [e] from h]; simp [pdAll]
theorem der_last (e : E) (u : Row) (y : ByteArray) : ∀ r, der (one e) (u ++ [y]) r → r ∈ e.pdy y := by
  intro x hx
  rw [der_snoc] at hx
  obtain ⟨r, hr, hx⟩ := hx
  exact (pdAll_step y r (der_sub (one_sub e) u r hr) x hx).1
theorem SL_step' {e : E} (hok : e.ok = true) {S : Stt} (h : ∀ r, S r → r ∈ pdAll e) (a : ByteArray) (w : Row) : SL S (a :: w) ↔ SL (stepS a S) w := by
  constructor
  · rintro ⟨r, hr, hw⟩
    obtain ⟨x, hx, hxw⟩ := (stepR_L a r (fun k hk => ((pdAll_ok hok r (h r hr)).2 k hk).1) w).1 hw
    exact ⟨x, ⟨r, hr, hx⟩, hxw⟩
  · rintro ⟨x, ⟨r, hr, hx⟩, hxw⟩
    exact ⟨r, hr, (stepR_L a r (fun k hk => ((pdAll_ok hok r (h r hr)).2 k hk).1) w).2 ⟨x, hx, hxw⟩⟩
theorem der_L {e : E} (hok : e.ok = true) (w v : Row) : SL (der (one e) w) v ↔ e.L (w ++ v) := by
  have key : ∀ (w : Row) (S : Stt), (∀ r, S r → r ∈ pdAll e) → (SL (der S w) v ↔ SL S (w ++ v)) := by
    intro w
    induction w with
    | nil => intro S _; exact Iff.rfl
    | cons a w ih =>
      intro S hS
      have h1 := der_sub hS [a]
      rw [show der S (a :: w) = der (stepS a S) w from rfl, ih (stepS a S) h1, List.cons_append]
      exact (SL_step' hok hS a (w ++ v)).symm
  rw [key w _ (one_sub e)]
  unfold SL one
  constructor
  · rintro ⟨r, rfl, h⟩; exact (restL_one e _).1 h
  · exact fun h => ⟨[e], rfl, (restL_one e _).2 h⟩
/-! ### all sets of some things -/
def subs {α : Type} (U : List α) : List (α → Prop) := (bools U.length).map fun bs => fun r => ∃ i : Nat, U[i]? = some r ∧ bs[i]? = some true
theorem subs_len {α : Type} (U : List α) : (subs U).length = 2 ^ U.length := by rw [subs, List.length_map, bools_len]
open Classical in
theorem subs_mem {α : Type} (U : List α) (S : α → Prop) (h : ∀ r, S r → r ∈ U) : S ∈ subs U := by
  refine List.mem_map.2 ⟨U.map fun r => decide (S r), by have := bools_mem (U.map fun r => decide (S r)); rwa [List.length_map] at this, ?_⟩
  funext r
  apply propext
  constructor
  · rintro ⟨i, h1, h2⟩
    rw [List.getElem?_map, h1] at h2
    simpa using h2
  · intro hr
    obtain ⟨i, hi⟩ := List.getElem?_of_mem (h r hr)
    exact ⟨i, hi, by rw [List.getElem?_map, hi]; simp [hr]⟩
def subs2 (U V : List Rest) : List (Stt × Stt) := (subs U).flatMap fun S => (subs V).map fun T => (S, T)
theorem flat_const {α β : Type} (f : α → List β) (n : Nat) : ∀ l : List α, (∀ x ∈ l, (f x).length ≤ n) → (l.flatMap f).length ≤ l.length * n
  | [], _ => by simp
  | x :: l, h => by
    have h1 := h x (by simp)
    have h2 := flat_const f n l fun y hy => h y (by simp [hy])
    simp only [List.flatMap_cons, List.length_append, List.length_cons, Nat.succ_mul]
    omega
theorem subs2_len (U V : List Rest) : (subs2 U V).length ≤ 2 ^ (U.length + V.length) := by
  have := flat_const (fun S => (subs V).map fun T => (S, T)) (2 ^ V.length) (subs U) fun S _ => by rw [List.length_map, subs_len]; exact Nat.le_refl _
  rw [subs_len, ← Nat.pow_add] at this
  exact this
theorem subs2_mem (U V : List Rest) {S T : Stt} (h : ∀ r, S r → r ∈ U) (h' : ∀ r, T r → r ∈ V) : (S, T) ∈ subs2 U V :=
  List.mem_flatMap.2 ⟨S, subs_mem U S h, List.mem_map.2 ⟨T, subs_mem V T h', rfl⟩⟩
section
variable (e f : E)
def cc (y : ByteArray) : Nat := (e.pdy y).length + (f.pdy y).length
open Classical in
noncomputable def allN : List ByteArray := e.names ++ f.names.filter fun y => !decide (y ∈ e.names)
open Classical in
theorem allN_nodup : (allN e f).Nodup := List.nodup_append.2 ⟨names_nodup e, (names_nodup f).filter _, fun a ha b hb => by
  have := (List.mem_filter.1 hb).2
  simp at this
  exact fun h => this (h ▸ ha)⟩
noncomputable def zs : List ByteArray := (allN e f).filter fun y => !decide (cc e f y = 0)
theorem leaves23 {e : E} (hc : e.cnt ≤ 24) : e.leaves ≤ 23 := by
  have h2 := leaves_le e
  by_cases h : e.op = 110
  · have : e.leaves = 1 := by rw [leaves_eq, if_pos h]
    omega
  · rcases h2.2 with h2 | h2 <;> omega
variable {e f} (he : e.cnt ≤ 24) (hf : f.cnt ≤ 24)
include he hf
theorem cc_sum (ys : List ByteArray) (h : ys.Nodup) : (ys.map (cc e f)).sum ≤ 46 := by
  have h1 := pdy_len ys h e
  have h2 := pdy_len ys h f
  have h3 := leaves23 he
  have h4 := leaves23 hf
  have : (ys.map (cc e f)).sum = (ys.map fun y => (e.pdy y).length).sum + (ys.map fun y => (f.pdy y).length).sum := sum_add _ _ ys
  omega
theorem zs_len : (zs e f).length ≤ 46 := by
  have h := cc_sum he hf (zs e f) ((allN_nodup e f).filter _)
  have : ∀ l : List ByteArray, (∀ y ∈ l, cc e f y ≠ 0) → l.length ≤ (l.map (cc e f)).sum := by
    intro l
    induction l with
    | nil => intro _; simp
    | cons y l ih =>
      intro h
      have h1 := h y (by simp)
      have h2 := ih fun z hz => h z (by simp [hz])
      simp
      omega
  have := this (zs e f) fun y hy => by simpa using (List.mem_filter.1 hy).2
  omega
end
open Classical in
theorem zs_mem {e f : E} {y : ByteArray} (h : cc e f y ≠ 0) : y ∈ zs e f := by
  refine List.mem_filter.2 ⟨?_, by simpa using h⟩
  unfold cc at h
  by_cases h1 : (e.pdy y).length = 0
  · have h2 : (f.pdy y).length ≠ 0 := by omega
    obtain ⟨r, hr⟩ := List.exists_mem_of_length_pos (by omega : 0 < (f.pdy y).length)
    have := (names_mem f y).2 (pdy_occ y f r hr)
    by_cases h3 : y ∈ e.names
    · exact List.mem_append.2 (.inl h3)
    · exact List.mem_append.2 (.inr (List.mem_filter.2 ⟨this, by simp [h3]⟩))
  · obtain ⟨r, hr⟩ := List.exists_mem_of_length_pos (by omega : 0 < (e.pdy y).length)
    exact List.mem_append.2 (.inl ((names_mem e y).2 (pdy_occ y e r hr)))
def pairOf (e f : E) (w : Row) : Stt × Stt := (der (one e) w, der (one f) w)
def void : Stt := fun _ => False
theorem void_of {S : Stt} (h : ∀ r, S r → r ∈ ([] : List Rest)) : S = void := by
  funext r
  apply propext
  exact ⟨fun q => (by cases h r q), fun q => q.elim⟩
/-- Where a row that ends with y leads. -/
theorem pair_last (e f : E) (u : Row) (y : ByteArray) : pairOf e f (u ++ [y]) = (void, void) ∨ (y ∈ zs e f ∧ pairOf e f (u ++ [y]) ∈ subs2 (e.pdy y) (f.pdy y)) := by
  have h1 := der_last e u y
  have h2 := der_last f u y
  by_cases h : cc e f y = 0
  · left
    unfold cc at h
    have e1 : e.pdy y = [] := List.eq_nil_of_length_eq_zero (by omega)
    have e2 : f.pdy y = [] := List.eq_nil_of_length_eq_zero (by omega)
    rw [e1] at h1
    rw [e2] at h2
    unfold pairOf
    rw [void_of h1, void_of h2]
  · exact .inr ⟨zs_mem h, subs2_mem _ _ h1 h2⟩
theorem rep_split (x : ByteArray) : ∀ (n : Nat) (w : Row), w.length = n → ∃ u k, w = u ++ List.replicate k x ∧ (u = [] ∨ ∃ v y, u = v ++ [y] ∧ y ≠ x) := by
  intro n
  induction n with
  | zero => exact fun w hw => ⟨[], 0, by rw [List.eq_nil_of_length_eq_zero hw]; rfl, .inl rfl⟩
  | succ n ih =>
    intro w hw
    obtain ⟨v, y, rfl⟩ : ∃ v y, w = v ++ [y] := ⟨w.dropLast, w.getLast (by intro e; rw [e] at hw; cases hw), (List.dropLast_concat_getLast _).symm⟩
    by_cases hy : y = x
    · subst hy
      obtain ⟨u, k, e1, e2⟩ := ih v (by simpa using hw)
      exact ⟨u, k + 1, by rw [e1, List.append_assoc, List.replicate_succ'], e2⟩
    · exact ⟨v ++ [y], 0, by simp, .inr ⟨v, y, rfl, hy⟩⟩
def OB : Nat := 29388610
theorem pow46 : (3 : Nat) ^ 46 < 21000000 ^ 3 := by decide
/-- Going on by one name alone one comes round. -/
theorem orbit_short {e f : E} (he : e.cnt ≤ 24) (hf : f.cnt ≤ 24) (x : ByteArray) (S T : Stt) (hS : ∀ r, S r → r ∈ pdAll e) (hT : ∀ r, T r → r ∈ pdAll f) (k : Nat) : ∃ k', k' < OB ∧ der S (List.replicate k x) = der S (List.replicate k' x) ∧ der T (List.replicate k x) = der T (List.replicate k' x) := by
  have one' : ∀ (e : E) (S : Stt), (∀ r, S r → r ∈ pdAll e) → e.cnt ≤ 24 → ∃ i P, i ≤ 8388609 ∧ 0 < P ∧ P ^ 3 ≤ 3 ^ (e.pdy x).length ∧ ∀ k, i ≤ k → der S (List.replicate (k + P) x) = der S (List.replicate k x) := by
    intro e S hS he
    obtain ⟨i, P, h1, h2, h3, h4⟩ := comes_round (fun p q => q ∈ stepR x p) (fun k => der S (List.replicate k x)) (fun k r => by
      rw [List.replicate_succ', der_snoc]
      exact Iff.rfl) (e.pdy x) (fun k r hr => by
      rw [List.replicate_succ', der_snoc] at hr
      obtain ⟨q, hq, hr⟩ := hr
      exact (pdAll_step x q (der_sub hS _ q hq) r hr).1)
    have hl : (e.pdy x).length ≤ 23 := by
      have := pdy_len [x] (by simp) e
      have := leaves23 he
      simp at *
      omega
    have : 2 ^ (e.pdy x).length ≤ 2 ^ 23 := Nat.pow_le_pow_right (by decide) hl
    exact ⟨i, P, by have : (2 : Nat) ^ 23 = 8388608 := by decide
                    omega, h2, h3, h4⟩
  obtain ⟨i, P, a1, a2, a3, a4⟩ := one' e S hS he
  obtain ⟨j, Q, b1, b2, b3, b4⟩ := one' f T hT hf
  have hPQ : P * Q < 21000000 := by
    refine Classical.byContradiction fun hge => ?_
    have h1 : 21000000 ^ 3 ≤ (P * Q) ^ 3 := Nat.pow_le_pow_left (by omega) 3
    rw [Nat.mul_pow] at h1
    have h2 : P ^ 3 * Q ^ 3 ≤ 3 ^ (e.pdy x).length * 3 ^ (f.pdy x).length := Nat.mul_le_mul a3 b3
    rw [← Nat.pow_add] at h2
    have h3 := cc_sum he hf [x] (by simp)
    have h4 : 3 ^ ((e.pdy x).length + (f.pdy x).length) ≤ 3 ^ 46 := Nat.pow_le_pow_right (by decide) (by simpa [cc] using h3)
    have := pow46
    omega
  have many : ∀ (S : Stt) (i P : Nat), (∀ k, i ≤ k → der S (List.replicate (k + P) x) = der S (List.replicate k x)) → ∀ n k, i ≤ k → der S (List.replicate (k + P * n) x) = der S (List.replicate k x) := by
    intro S i P h n
    induction n with
    | zero => intro k _; rfl
    | succ n ih =>
      intro k hk
      rw [show k + P * (n + 1) = (k + P * n) + P by rw [Nat.mul_succ]; omega, h _ (by omega), ih k hk]
  have h0 : 0 < P * Q := Nat.mul_pos a2 b2
  have key : ∀ n k, k ≤ n → ∃ k', k' < OB ∧ der S (List.replicate k x) = der S (List.replicate k' x) ∧ der T (List.replicate k x) = der T (List.replicate k' x) := by
    intro n
    induction n with
    | zero => exact fun k hk => ⟨k, by unfold OB; omega, rfl, rfl⟩
    | succ n ih =>
      intro k hk
      by_cases hlt : k < OB
      · exact ⟨k, hlt, rfl, rfl⟩
      · have hO : OB = 29388610 := rfl
        obtain ⟨m, rfl⟩ : ∃ m, k = m + P * Q := ⟨k - P * Q, by omega⟩
        obtain ⟨k', h1, h2, h3⟩ := ih m (by omega)
        refine ⟨k', h1, ?_, ?_⟩
        · rw [many S i P a4 Q m (by omega), h2]
        · rw [Nat.mul_comm P Q, many T j Q b4 P m (by omega), h3]
  exact key k k (Nat.le_refl _)
def PB : Nat := 3200000000000
theorem pairs_len {e f : E} (he : e.cnt ≤ 24) (hf : f.cnt ≤ 24) (ps : List (Stt × Stt)) (hn : ps.Nodup) (hp : ∀ p ∈ ps, ∃ w, p = pairOf e f w) : ps.length ≤ PB := by
  have hP : PB = 3200000000000 := rfl
  by_cases hx : ∃ x ∈ zs e f, 37 ≤ cc e f x
  · obtain ⟨x, hxz, hx37⟩ := hx
    let ys := (zs e f).filter fun y => !decide (y = x)
    have hys : ∀ y ∈ ys, y ∈ zs e f ∧ y ≠ x := fun y hy => by
      have := List.mem_filter.1 hy
      exact ⟨this.1, by simpa using this.2⟩
    have hsum : (ys.map (cc e f)).sum ≤ 9 := by
      have := cc_sum he hf (x :: ys) (List.nodup_cons.2 ⟨fun h => (hys x h).2 rfl, (((allN_nodup e f).filter _).filter _)⟩)
      simp at this
      omega
    have hpos : ∀ l : List ByteArray, (∀ y ∈ l, cc e f y ≠ 0) → l.length ≤ (l.map (cc e f)).sum ∧ ∀ y ∈ l, cc e f y ≤ (l.map (cc e f)).sum := by
      intro l
      induction l with
      | nil => intro _; simp
      | cons y l ih =>
        intro h
        have h1 := h y (by simp)
        have h2 := ih fun z hz => h z (by simp [hz])
        simp only [List.length_cons, List.map_cons, List.sum_cons]
        refine ⟨by omega, fun z hz => ?_⟩
        rcases List.mem_cons.1 hz with rfl | hz
        · omega
        · have := h2.2 z hz; omega
    obtain ⟨hl, hc⟩ := hpos ys fun y hy => by simpa using (List.mem_filter.1 (hys y hy).1).2
    have hflat : (ys.flatMap fun y => subs2 (e.pdy y) (f.pdy y)).length ≤ ys.length * 512 := flat_const _ 512 ys fun y hy => by
      have h1 := subs2_len (e.pdy y) (f.pdy y)
      have h2 : 2 ^ ((e.pdy y).length + (f.pdy y).length) ≤ 2 ^ 9 := Nat.pow_le_pow_right (by decide) (by
        have := hc y hy
        have e1 : cc e f y = (e.pdy y).length + (f.pdy y).length := rfl
        omega)
      have h3 : (2 : Nat) ^ 9 = 512 := by decide
      omega
    let st : List (Stt × Stt) := (one e, one f) :: (void, void) :: ys.flatMap fun y => subs2 (e.pdy y) (f.pdy y)
    have hst : st.length ≤ 4610 := by
      simp only [st, List.length_cons]
      omega
    have hall := nodup_sub_len ps (st.flatMap fun s => (List.range OB).map fun k => (der s.1 (List.replicate k x), der s.2 (List.replicate k x))) hn fun p hpm => by
      obtain ⟨w, rfl⟩ := hp p hpm
      obtain ⟨u, k, rfl, hu⟩ := rep_split x w.length w rfl
      obtain ⟨k', h1, h2, h3⟩ := orbit_short he hf x (der (one e) u) (der (one f) u) (der_sub (one_sub e) u) (der_sub (one_sub f) u) k
      refine List.mem_flatMap.2 ⟨pairOf e f u, ?_, List.mem_map.2 ⟨k', List.mem_range.2 h1, ?_⟩⟩
      · rcases hu with rfl | ⟨v, y, rfl, hy⟩
        · exact List.mem_cons.2 (.inl rfl)
        · rcases pair_last e f v y with h | ⟨h, h'⟩
          · rw [h]; simp [st]
          · simp only [st, List.mem_cons, List.mem_flatMap]
            exact .inr (.inr ⟨y, List.mem_filter.2 ⟨h, by simp [hy]⟩, h'⟩)
      · unfold pairOf
        rw [der_append, der_append, h2, h3]
    have h2 := flat_const (fun s : Stt × Stt => (List.range OB).map fun k => (der s.1 (List.replicate k x), der s.2 (List.replicate k x))) OB st fun s _ => by simp
    have h3 : st.length * OB ≤ 4610 * OB := Nat.mul_le_mul_right _ hst
    have h4 : 4610 * OB ≤ PB := by decide
    omega
  · have hall := nodup_sub_len ps ((one e, one f) :: (void, void) :: (zs e f).flatMap fun y => subs2 (e.pdy y) (f.pdy y)) hn fun p hpm => by
      obtain ⟨w, rfl⟩ := hp p hpm
      by_cases hw : w = []
      · subst hw; exact List.mem_cons.2 (.inl rfl)
      · obtain ⟨v, y, rfl⟩ : ∃ v y, w = v ++ [y] := ⟨w.dropLast, w.getLast hw, (List.dropLast_concat_getLast _).symm⟩
        rcases pair_last e f v y with h | ⟨h, h'⟩
        · rw [h]; simp
        · simp only [List.mem_cons, List.mem_flatMap]
          exact .inr (.inr ⟨y, h, h'⟩)
    have hflat : ((zs e f).flatMap fun y => subs2 (e.pdy y) (f.pdy y)).length ≤ (zs e f).length * 68719476736 := flat_const _ _ _ fun y hy => by
      have h1 := subs2_len (e.pdy y) (f.pdy y)
      have h2 : 2 ^ ((e.pdy y).length + (f.pdy y).length) ≤ 2 ^ 36 := Nat.pow_le_pow_right (by decide) (by
        refine Classical.byContradiction fun hge => hx ⟨y, hy, ?_⟩
        unfold cc
        omega)
      have h3 : (2 : Nat) ^ 36 = 68719476736 := by decide
      omega
    have hz := zs_len he hf
    have h3 : (zs e f).length * 68719476736 ≤ 46 * 68719476736 := Nat.mul_le_mul_right _ hz
    simp only [List.length_cons] at hall
    omega
/-- So many ways there are, at most. -/
theorem ways_len {a b : Au} {bad : Int → Int → Bool} {names : List ByteArray} {i : Nat} {done : List ByteArray} {ways : List Way} (h : Ways a b bad names i done ways) {La Lb : Nat → Row → Prop} (ha : Least a La) (hb : Least b Lb) {e f : E} (he : e.cnt ≤ 24) (hf : f.cnt ≤ 24) (hoe : e.ok = true) (hof : f.ok = true)
    (h1 : ∀ w, La 0 w ↔ e.L w) (h2 : ∀ w, Lb 0 w ↔ f.L w) : ways.length ≤ PB := by
  have key : ∀ {a : Au} {L : Nat → Row → Prop} {e : E}, Least a L → e.ok = true → (∀ w, L 0 w ↔ e.L w) → ∀ w w', der (one e) w = der (one e) w' → a.run 0 w = a.run 0 w' := by
    intro a L e ha hoe h1 w w' hd
    obtain ⟨p1, p2⟩ := sem_run ha.sem.toSem0 w (st0 ha.sem.toSem0)
    obtain ⟨q1, q2⟩ := sem_run ha.sem.toSem0 w' (st0 ha.sem.toSem0)
    have h0 : ∀ v, LI L 0 v ↔ e.L v := fun v => by unfold LI; simp [h1]
    refine least_eq ha p1 q1 fun v => ?_
    rw [← p2 v, ← q2 v, h0, h0, ← der_L hoe w v, ← der_L hoe w' v, hd]
  have hn := nodup_map (fun q : Way => pairOf e f q.2) ways (by
    have := h.nodup
    exact (List.pairwise_map.1 this).imp fun hne e => hne (by rw [e])) fun q hq q' hq' heq => by
    have e1 := key ha hoe h1 q.2 q'.2 (congrArg Prod.fst heq)
    have e2 := key hb hof h2 q.2 q'.2 (congrArg Prod.snd heq)
    have e3 : q.1 = q'.1 := by rw [(h.at' q hq).1, (h.at' q' hq').1, pr, pr, e1, e2]
    obtain ⟨k, hk⟩ := List.getElem?_of_mem hq
    obtain ⟨k', hk'⟩ := List.getElem?_of_mem hq'
    have g1 : (ways.map (·.1))[k]? = some q.1 := by rw [List.getElem?_map, hk]; rfl
    have g2 : (ways.map (·.1))[k']? = some q.1 := by rw [List.getElem?_map, hk', e3]; rfl
    have hkk : k = k' := by
      obtain ⟨x1, x2⟩ := List.getElem?_eq_some_iff.1 g1
      obtain ⟨y1, y2⟩ := List.getElem?_eq_some_iff.1 g2
      rcases Nat.lt_trichotomy k k' with g | g | g
      · exact absurd (x2.trans y2.symm) (List.pairwise_iff_getElem.1 h.nodup _ _ x1 y1 g)
      · exact g
      · exact absurd (y2.trans x2.symm) (List.pairwise_iff_getElem.1 h.nodup _ _ y1 x1 g)
    subst hkk
    rw [hk] at hk'
    exact Option.some.inj hk'
  have := pairs_len he hf _ hn fun p hp => by
    obtain ⟨q, _, rfl⟩ := List.mem_map.1 hp
    exact ⟨q.2, rfl⟩
  rwa [List.length_map] at this
end Go.Proofs.D
/-
  SETS OF PLACES, as they are met: what the walk must know.
-/
set_option linter.unusedVariables false
set_option linter.unusedSimpArgs false
namespace Go.Proofs.D
open Go Go.Abs
section
variable {σ κ : Type} [DecidableEq κ] (key : σ → κ)
theorem rowK_append : ∀ (l1 l2 : List (Option σ)) (all : List σ), rowK key all (l1 ++ l2) = ((rowK key (rowK key all l1).1 l2).1, (rowK key all l1).2 ++ (rowK key (rowK key all l1).1 l2).2)
  | [], l2, all => by simp [rowK]
  | none :: l1, l2, all => by simp [rowK, rowK_append l1 l2 all]
  | some s :: l1, l2, all => by
    simp only [List.cons_append, rowK]
    split
    · simp [rowK_append l1 l2 all]
    · simp [rowK_append l1 l2 (all ++ [s])]
theorem rowK_some (all : List σ) (s : σ) : rowK key all [some s] = if key s ∈ all.map key then (all, [(ixK (key s) (all.map key) : Int)]) else (all ++ [s], [(all.length : Int)]) := by
  simp only [rowK]
theorem rowK_none (all : List σ) : rowK key all [none] = (all, [-1]) := rfl
theorem rowK_mono (l1 l2 : List (Option σ)) (all : List σ) (h : (all.map key).Nodup) : (rowK key all l1).1.length ≤ (rowK key all (l1 ++ l2)).1.length := by
  obtain ⟨m, h1, h2, _⟩ := rowK_spec key l1 all h
  obtain ⟨m', g1, _⟩ := rowK_spec key l2 (rowK key all l1).1 h2
  rw [rowK_append, g1, List.length_append]
  omega
theorem rowK_len (l : List (Option σ)) (all : List σ) (h : (all.map key).Nodup) : (rowK key all l).2.length = l.length := by
  obtain ⟨m, _, _, _, h4, _⟩ := rowK_spec key l all h
  exact h4
end
theorem ixK_nodup {κ : Type} [DecidableEq κ] {k : κ} : ∀ {l : List κ} {n : Nat}, l.Nodup → l[n]? = some k → ixK k l = n
  | x :: l, 0, _, h => by simp at h; simp [ixK, h]
  | x :: l, n + 1, hn, h => by
    obtain ⟨h1, h2⟩ := List.nodup_cons.1 hn
    simp at h
    have hx : x ≠ k := fun e => h1 (e ▸ List.mem_of_getElem? h)
    simp [ixK, hx, ixK_nodup h2 h]
theorem zset {α : Type} (Z : List α) (k n : Nat) (hZ : Z.length = k) (hk : k < n) (z v : α) : (Z ++ List.replicate (n - k) z)[k]? = some z ∧ (Z ++ List.replicate (n - k) z).set k v = Z ++ [v] ++ List.replicate (n - (k + 1)) z := by
  have e : List.replicate (n - k) z = z :: List.replicate (n - (k + 1)) z := by rw [show n - k = (n - (k + 1)) + 1 by omega, List.replicate_succ]
  rw [e]
  subst hZ
  constructor
  · simp
  · simp [List.set_append_right]
theorem nextX_under {r : Pr} (h : Wk r) (a : ByteArray) {s : List Nat} (hs : Under (r.en + 1) s) (x : Nat) : Under (r.en + 1) (nextX r a s x) := by
  have hb : Under (r.en + 1) (r.pl.behind.getD x []) := (under_getD h.pl.bh x).mono (by unfold Pr.en; omega)
  have he : Under (r.en + 1) [r.en] := ⟨List.pairwise_singleton _ _, fun y hy => by simp at hy; omega⟩
  unfold nextX
  split
  · split
    · exact (hs.put hb).put he
    · exact hs.put hb
  · exact hs
theorem fold_under {r : Pr} (h : Wk r) (a : ByteArray) : ∀ (l s : List Nat), Under (r.en + 1) s → Under (r.en + 1) (l.foldl (nextX r a) s)
  | [], s, hs => hs
  | x :: l, s, hs => fold_under h a l _ (nextX_under h a hs x)
theorem begin_under {r : Pr} (h : Wk r) : Under (r.en + 1) (beginR r) := by
  have hf : Under (r.en + 1) r.first := h.first.mono (by unfold Pr.en; omega)
  unfold beginR
  split
  · exact hf.put ⟨List.pairwise_singleton _ _, fun y hy => by simp at hy; omega⟩
  · exact hf
theorem setM_under {r : Pr} (h : Wk r) (N : List ByteArray) (i : Nat) : ∀ S ∈ (setM r N i).1, Under (r.en + 1) S :=
  met_all _ _ _ (Under (r.en + 1)) (begin_under h) (fun S _ T hT => by
    obtain ⟨a, _, e⟩ := List.mem_map.1 hT
    cases e
    exact fold_under h a S [] (under_nil _)) i
/-- The row of a set, name by name. -/
theorem set_step (r : Pr) (N : List ByteArray) (i : Nat) (S : List Nat) (h : (setM r N i).1[i]? = some S) : setM r N (i + 1) = ((rowK id (setM r N i).1 (fR r N S)).1, (setM r N i).2 ++ [(rowK id (setM r N i).1 (fR r N S)).2]) := by
  unfold setM at h ⊢
  simp only [met, h]
theorem set_first (r : Pr) (N : List ByteArray) : setM r N 0 = ([beginR r], []) := rfl
theorem set_nodup (r : Pr) (N : List ByteArray) (i : Nat) : ((setM r N i).1.map id).Nodup := (met_is id (fR r N) (beginR r) i).nodup
theorem set_end (r : Pr) (N : List ByteArray) (i W : Nat) (h : (setM r N i).1.length ≤ i) (hi : i ≤ W) : setM r N W = setM r N i := by
  have := met_end id (fR r N) (beginR r) i h (W - i)
  rw [show i + (W - i) = W by omega] at this
  exact this
theorem set_rows (r : Pr) (N : List ByteArray) (i : Nat) : (setM r N i).2.length ≤ (setM r N i).1.length := by
  have h : Met id (fR r N) (beginR r) i (setM r N i).1 (setM r N i).2 := met_is id (fR r N) (beginR r) i
  rcases h.many with h | h <;> omega
/-- .. k names of them. -/
def rowP (r : Pr) (N : List ByteArray) (A : List (List Nat)) (S : List Nat) (k : Nat) : List (List Nat) × List Int := rowK id A ((fR r N S).take k)
theorem rowP_step {r : Pr} {N : List ByteArray} {A : List (List Nat)} {S : List Nat} {k : Nat} (hk : k < N.length) (hA : ∀ s : List Nat, s ∈ (rowP r N A S k).1 ∨ s ∉ (rowP r N A S k).1) : rowP r N A S (k + 1) =
    if nextR r N[k] S ∈ (rowP r N A S k).1 then ((rowP r N A S k).1, (rowP r N A S k).2 ++ [(ixK (nextR r N[k] S) (rowP r N A S k).1 : Int)]) else ((rowP r N A S k).1 ++ [nextR r N[k] S], (rowP r N A S k).2 ++ [((rowP r N A S k).1.length : Int)]) := by
  have hf : (fR r N S).take (k + 1) = (fR r N S).take k ++ [some (nextR r N[k] S)] := by
    rw [List.take_add_one]
    simp [fR, List.getElem?_eq_getElem hk]
  unfold rowP
  rw [hf, rowK_append, rowK_some, List.map_id]
  simp only [id]
  split <;> rfl
theorem rowP_facts {r : Pr} (h : Wk r) {N : List ByteArray} {A : List (List Nat)} {S : List Nat} (hn : (A.map id).Nodup) (hA : ∀ s ∈ A, Under (r.en + 1) s) (k : Nat) (hk : k ≤ N.length) :
    (rowP r N A S k).1.Nodup ∧ (∀ s ∈ (rowP r N A S k).1, Under (r.en + 1) s) ∧ (rowP r N A S k).2.length = k ∧ (rowP r N A S k).1.length ≤ (rowK id A (fR r N S)).1.length := by
  obtain ⟨m, h1, h2, h3, h4, _⟩ := rowK_spec id ((fR r N S).take k) A hn
  refine ⟨by rw [List.map_id] at h2; exact h2, fun s hs => ?_, by unfold rowP; rw [h4, List.length_take]; simp [fR]; omega, ?_⟩
  · unfold rowP at hs
    rw [h1] at hs
    rcases List.mem_append.1 hs with hs | hs
    · exact hA s hs
    · obtain ⟨a, _, e⟩ := List.mem_map.1 (List.mem_of_mem_take (h3 s hs))
      cases e
      exact fold_under h a S [] (under_nil _)
  · have := rowK_mono id ((fR r N S).take k) ((fR r N S).drop k) A hn
    rw [List.take_append_drop] at this
    exact this
theorem rowP_pre {r : Pr} {N : List ByteArray} {A : List (List Nat)} {S : List Nat} (hn : (A.map id).Nodup) (k : Nat) : ∃ m, (rowP r N A S k).1 = A ++ m := by
  obtain ⟨m, h1, _⟩ := rowK_spec id ((fR r N S).take k) A hn
  exact ⟨m, h1⟩
theorem rowP_all (r : Pr) (N : List ByteArray) (A : List (List Nat)) (S : List Nat) : rowP r N A S N.length = rowK id A (fR r N S) := by
  unfold rowP
  rw [List.take_of_length_le (by simp [fR])]
end Go.Proofs.D
/-
  EXPRESSIONS' LEAST TABLES: each state is met; renamed ones have as many; what tells two apart.
-/
set_option linter.unusedVariables false
set_option linter.unusedSimpArgs false
namespace Go.Proofs.D
open Go Go.Abs
noncomputable def E.dfa (e : E) : Au := leastA (whole e) (wholeL e)
noncomputable def E.dfaL (e : E) : Nat → Row → Prop := numL (whole e) (cstar (whole e).next.length (wholeL e)) (wholeL e)
theorem dfa_least {e : E} (hok : e.ok = true) (hc : e.cnt ≤ 24) : Least e.dfa e.dfaL ∧ ∀ w, e.dfaL 0 w ↔ e.L w := by
  obtain ⟨h1, h2⟩ := whole_sem e hok hc
  obtain ⟨h3, h4⟩ := numbered_least h1 (names_nodup e) (cstar_exact (whole e) (wholeL e))
  exact ⟨h3, fun w => (h4 w).trans (h2 w)⟩
theorem dfa_names (e : E) : e.dfa.names = e.names := rfl
/-- Each state is met. -/
theorem row_reach {d : Au} {P : Int → Prop} : ∀ (r : List Int) (m n : Int), (∀ s, 0 ≤ s → s ≤ m → P s) → (∀ t ∈ r, 0 ≤ t → P t) → rowOrd m r = some n → ∀ s, 0 ≤ s → s ≤ n → P s
  | [], m, n, h, _, e => by simp only [rowOrd, Option.some.injEq] at e; subst e; exact h
  | t :: r, m, n, h, ht, e => by
    simp only [rowOrd] at e
    split at e
    · rename_i g
      refine row_reach (d := d) r (max m t) n (fun s s0 hs => ?_) (fun u hu => ht u (by simp [hu])) e
      by_cases hsm : s ≤ m
      · exact h s s0 hsm
      · have : s = t := by omega
        rw [this]
        exact ht t (by simp) (by omega)
    · cases e
theorem reach_all {d : Au} {L : Nat → Row → Prop} (h : Least d L) (hn : d.names.Nodup) : ∀ i, i < d.next.length → ∃ w, d.run 0 w = i ∧ ∀ x ∈ w, x ∈ d.names := by
  let P : Int → Prop := fun s => ∃ w, d.run 0 w = s ∧ ∀ x ∈ w, x ∈ d.names
  have tab : ∀ (k i : Nat) (m n : Int), k = d.next.length - i → (∀ s, 0 ≤ s → s ≤ m → P s) → tabOrd i m (d.next.drop i) = some n → ∀ s, 0 ≤ s → s ≤ n → P s := by
    intro k
    induction k with
    | zero =>
      intro i m n hk hm e
      rw [List.drop_eq_nil_of_le (by omega)] at e
      simp only [tabOrd, Option.some.injEq] at e
      subst e
      exact hm
    | succ k ih =>
      intro i m n hk hm e
      have hi : i < d.next.length := by omega
      rw [List.drop_eq_getElem_cons hi] at e
      simp only [tabOrd] at e
      split at e
      · rename_i g
        cases hr : rowOrd m d.next[i] with
        | none => rw [hr] at e; cases e
        | some m' =>
          rw [hr, Option.bind_some] at e
          refine ih (i + 1) m' n (by omega) (row_reach (d := d) d.next[i] m m' hm (fun t ht _ => ?_) hr) e
          obtain ⟨w, hw, hwn⟩ := hm i (by omega) g
          obtain ⟨j, hj⟩ := List.getElem?_of_mem ht
          have hjl := (List.getElem?_eq_some_iff.1 hj).1
          have hjn : j < d.names.length := by rw [← h.sem.row d.next[i] (List.getElem_mem _)]; exact hjl
          have := getRow h.sem.toSem0 hn (show d.next[i]? = some d.next[i] by simp) (show d.names[j]? = some d.names[j] by simp)
          rw [hj] at this
          refine ⟨w ++ [d.names[j]], ?_, fun x hx => ?_⟩
          · rw [run_append, hw, run_cons, run_nil]
            exact (Option.some.inj this).symm
          · rcases List.mem_append.1 hx with hx | hx
            · exact hwn x hx
            · simp at hx; rw [hx]; exact List.getElem_mem _
      · cases e
  intro i hi
  have := tab _ 0 0 _ rfl (fun s s0 s1 => ⟨[], by rw [run_nil]; omega, fun x hx => by cases hx⟩) (by rw [List.drop_zero]; exact h.ord) i (by omega) (by omega)
  exact this
/-- As many states, at least: where the rows of one answer to rows of the other. -/
theorem many_le {d d' : Au} {L L' : Nat → Row → Prop} (h : Least d L) (h' : Least d' L') (hn : d.names.Nodup) (f : ByteArray → ByteArray) (good : ByteArray → Prop) (hg : ∀ x ∈ d.names, good x) (hL : ∀ w, (∀ x ∈ w, good x) → (L' 0 (w.map f) ↔ L 0 w)) : d.next.length ≤ d'.next.length := by
  have hr := reach_all h hn
  have hex : ∀ i : Nat, ∃ w, i < d.next.length → d.run 0 w = i ∧ ∀ x ∈ w, x ∈ d.names := fun i => by
    by_cases hi : i < d.next.length
    · obtain ⟨w, hw⟩ := hr i hi
      exact ⟨w, fun _ => hw⟩
    · exact ⟨[], fun h => absurd h hi⟩
  let wd : Nat → Row := fun i => (hex i).choose
  have hwd : ∀ i, i < d.next.length → d.run 0 (wd i) = i ∧ ∀ x ∈ wd i, x ∈ d.names := fun i hi => (hex i).choose_spec hi
  have res : ∀ w v, LI L (d.run 0 w) v ↔ L 0 (w ++ v) := fun w v => by
    rw [← (sem_run h.sem.toSem0 w (st0 h.sem.toSem0)).2 v]
    unfold LI; simp
  have res' : ∀ w v, LI L' (d'.run 0 w) v ↔ L' 0 (w ++ v) := fun w v => by
    rw [← (sem_run h'.sem.toSem0 w (st0 h'.sem.toSem0)).2 v]
    unfold LI; simp
  have hpos : ∀ i, i < d.next.length → 0 ≤ d'.run 0 ((wd i).map f) ∧ (d'.run 0 ((wd i).map f)).toNat < d'.next.length := fun i hi => by
    obtain ⟨e, hw⟩ := hwd i hi
    obtain ⟨v, hv⟩ := h.sem.live i hi
    have h1 : LI L (d.run 0 (wd i)) v := by rw [e]; exact ⟨by omega, by simpa using hv⟩
    have h2 := (res _ _).1 h1
    have hvn : ∀ x ∈ v, good x := by
      have : ∀ (v : Row) (s : Nat), s < d.next.length → L s v → ∀ x ∈ v, x ∈ d.names := by
        intro v
        induction v with
        | nil => intro s _ _ x hx; cases hx
        | cons a v ih =>
          intro s hs hL x hx
          have ha := h.sem.only s hs a v hL
          rcases List.mem_cons.1 hx with rfl | hx
          · exact ha
          · rcases h.sem.step s hs a ha with ⟨_, q⟩ | ⟨m, _, hm, q⟩
            · exact absurd hL (q v)
            · exact ih m hm ((q v).1 hL) x hx
      exact fun x hx => hg x (this v i hi hv x hx)
    have h3 := (hL (wd i ++ v) (fun x hx => by
      rcases List.mem_append.1 hx with hx | hx
      · exact hg x (hw x hx)
      · exact hvn x hx)).2 h2
    rw [List.map_append] at h3
    have h4 := (res' _ _).2 h3
    refine ⟨h4.1, ?_⟩
    rcases (sem_run h'.sem.toSem0 ((wd i).map f) (st0 h'.sem.toSem0)).1 with q | q
    · have := h4.1; omega
    · exact q.2
  have := nodup_sub_len ((List.range d.next.length).map fun i => (d'.run 0 ((wd i).map f)).toNat) (List.range d'.next.length) (nodup_map _ _ List.nodup_range fun i hi j hj e => by
    have hi := List.mem_range.1 hi
    have hj := List.mem_range.1 hj
    have p1 := hpos i hi
    have p2 := hpos j hj
    have e' : d'.run 0 ((wd i).map f) = d'.run 0 ((wd j).map f) := by omega
    obtain ⟨e1, w1⟩ := hwd i hi
    obtain ⟨e2, w2⟩ := hwd j hj
    refine h.apart i j hi hj fun v => ?_
    have key : ∀ (i : Nat), i < d.next.length → ∀ v, L i v ↔ (∀ x ∈ v, x ∈ d.names) ∧ L' 0 ((wd i).map f ++ v.map f) := fun i hi v => by
      obtain ⟨e, hw⟩ := hwd i hi
      have a1 : L i v ↔ LI L (d.run 0 (wd i)) v := by rw [e]; unfold LI; simp
      rw [a1, res]
      constructor
      · intro q
        have hvn : ∀ x ∈ v, x ∈ d.names := by
          have : ∀ (v : Row) (s : Nat), s < d.next.length → L s v → ∀ x ∈ v, x ∈ d.names := by
            intro v
            induction v with
            | nil => intro s _ _ x hx; cases hx
            | cons a v ih =>
              intro s hs hL x hx
              have ha := h.sem.only s hs a v hL
              rcases List.mem_cons.1 hx with rfl | hx
              · exact ha
              · rcases h.sem.step s hs a ha with ⟨_, q⟩ | ⟨m, _, hm, q⟩
                · exact absurd hL (q v)
                · exact ih m hm ((q v).1 hL) x hx
          exact this v i hi (a1.2 ((res _ _).2 q))
        refine ⟨hvn, ?_⟩
        rw [← List.map_append]
        exact (hL _ (fun x hx => by
          rcases List.mem_append.1 hx with hx | hx
          · exact hg x (hw x hx)
          · exact hg x (hvn x hx))).2 q
      · rintro ⟨hvn, q⟩
        rw [← List.map_append] at q
        exact (hL _ (fun x hx => by
          rcases List.mem_append.1 hx with hx | hx
          · exact hg x (hw x hx)
          · exact hg x (hvn x hx))).1 q
    rw [key i hi v, key j hj v, ← res' _ _, ← res' _ _, e']) fun x hx => by
    obtain ⟨i, hi, rfl⟩ := List.mem_map.1 hx
    exact List.mem_range.2 (hpos i (List.mem_range.1 hi)).2
  simpa using this
/-! ### what tells two apart -/
def badP (a b : Au) (both : Bool) (s t : Int) : Bool := (a.acc s && !b.acc t) || (both && (b.acc t && !a.acc s))
/-- The rows that e means, and f does not; or the other way round, too. -/
def Dif (e f : E) (both : Bool) (w : Row) : Prop := (e.L w ∧ ¬ f.L w) ∨ (both = true ∧ f.L w ∧ ¬ e.L w)
theorem badP_iff {a b : Au} {La Lb : Nat → Row → Prop} (ha : Least a La) (hb : Least b Lb) {e f : E} (h1 : ∀ w, La 0 w ↔ e.L w) (h2 : ∀ w, Lb 0 w ↔ f.L w) (both : Bool) (w : Row) : badP a b both (a.run 0 w) (b.run 0 w) = true ↔ Dif e f both w := by
  have e1 := (sem_has ha.sem.toSem0 w).trans (h1 w)
  have e2 := (sem_has hb.sem.toSem0 w).trans (h2 w)
  unfold badP Dif
  rw [← e1, ← e2]
  cases a.acc (a.run 0 w) <;> cases b.acc (b.run 0 w) <;> cases both <;> simp
theorem badP_dead (a b : Au) (both : Bool) : badP a b both (-1) (-1) = false := by simp [badP, Au.acc]
open Classical in
noncomputable def apartR (e f : E) (both : Bool) : Row × Bool := (theRow (Dif e f both), decide (∃ w, Dif e f both w))
theorem apart_found {a b : Au} {La Lb : Nat → Row → Prop} (ha : Least a La) (hb : Least b Lb) {e f : E} (h1 : ∀ w, La 0 w ↔ e.L w) (h2 : ∀ w, Lb 0 w ↔ f.L w) {both : Bool} {names : List ByteArray} (hnm : ∀ x, x ∈ names ↔ x ∈ a.names ∨ x ∈ b.names) {i : Nat} {ways : List Way} (h : Ways a b (badP a b both) names i [] ways)
    {p : Way} (hp : ways[i]? = some p) (hbad : badP a b both p.1.1 p.1.2 = true) : apartR e f both = (p.2, true) := by
  have hat := (h.at' p (List.mem_of_getElem? hp)).1
  rw [hat] at hbad
  have hD : Dif e f both p.2 := (badP_iff ha hb h1 h2 both p.2).1 hbad
  have hl : LeastRow (Dif e f both) p.2 := ⟨hD, fun v hv q => by
    have := ways_found h ha.sem.row hb.sem.row hnm (badP_dead a b both) hp v hv
    rw [show badP a b both (pr a b v).1 (pr a b v).2 = true from (badP_iff ha hb h1 h2 both v).2 q] at this
    cases this⟩
  have hx : ∃ w, Dif e f both w := ⟨_, hD⟩
  unfold apartR
  rw [theRow_eq hl]
  simp [hx]
theorem apart_none {a b : Au} {La Lb : Nat → Row → Prop} (ha : Least a La) (hb : Least b Lb) {e f : E} (h1 : ∀ w, La 0 w ↔ e.L w) (h2 : ∀ w, Lb 0 w ↔ f.L w) {both : Bool} {names : List ByteArray} (hnm : ∀ x, x ∈ names ↔ x ∈ a.names ∨ x ∈ b.names) {i : Nat} {ways : List Way} (h : Ways a b (badP a b both) names i [] ways)
    (hi : ways.length ≤ i) : apartR e f both = ([], false) := by
  have hno : ∀ w, ¬ Dif e f both w := fun w q => by
    have := ways_none h ha.sem.row hb.sem.row hnm (badP_dead a b both) hi w
    rw [show badP a b both (pr a b w).1 (pr a b w).2 = true from (badP_iff ha hb h1 h2 both w).2 q] at this
    cases this
  have hx : ¬ ∃ w, Dif e f both w := fun ⟨w, hw⟩ => hno w hw
  unfold apartR
  rw [theRow_none hno]
  simp [hx]
open Classical in
theorem apartR_true {e f : E} {both : Bool} (h : (apartR e f both).2 = true) : ∃ w, Dif e f both w := of_decide_eq_true h
open Classical in
theorem apartR_false {e f : E} {both : Bool} (h : (apartR e f both).2 = false) (w : Row) : ¬ Dif e f both w := fun q => of_decide_eq_false h ⟨w, q⟩
end Go.Proofs.D
/-
  CLASSES by turns: what the walk must know.
-/
set_option linter.unusedVariables false
set_option linter.unusedSimpArgs false
namespace Go.Proofs.D
open Go Go.Abs
/-- i signs, numbered. -/
def relP (S : List (List Int)) (i : Nat) : List (List Int) × List Int := rowK id [] ((S.map some).take i)
theorem relP_facts (S : List (List Int)) (i : Nat) (hi : i ≤ S.length) : (relP S i).1.Nodup ∧ (relP S i).2.length = i ∧ (∀ (j : Nat) (s : List Int), j < i → S[j]? = some s → (relP S i).2[j]? = some ((ixK s (relP S i).1 : Nat) : Int) ∧ s ∈ (relP S i).1) ∧ (∀ s ∈ (relP S i).1, ∃ j, j < i ∧ S[j]? = some s) ∧ (relP S i).1.length ≤ i := by
  obtain ⟨m, h1, h2, h3, h4, h5, _⟩ := rowK_spec id ((S.map some).take i) ([] : List (List Int)) (by simp)
  rw [List.map_id] at h2
  have hl : ((S.map some).take i).length = i := by simp; omega
  have hmem : ∀ s ∈ (relP S i).1, ∃ j, j < i ∧ S[j]? = some s := fun s hs => by
    unfold relP at hs
    rw [h1, List.nil_append] at hs
    obtain ⟨j, hj⟩ := List.getElem?_of_mem (h3 s hs)
    have hji := (List.getElem?_eq_some_iff.1 hj).1
    rw [hl] at hji
    rw [List.getElem?_take, if_pos hji, List.getElem?_map] at hj
    refine ⟨j, hji, ?_⟩
    cases hS : S[j]? with
    | none => rw [hS] at hj; cases hj
    | some x => rw [hS] at hj; cases hj; rfl
  refine ⟨h2, by unfold relP; rw [h4, hl], fun j s hj hs => ?_, hmem, ?_⟩
  · have g1 : ((S.map some).take i)[j]? = some (some s) := by rw [List.getElem?_take, if_pos hj, List.getElem?_map, hs]; rfl
    have hjl : j < (relP S i).2.length := by unfold relP; rw [h4, hl]; exact hj
    obtain ⟨n, e1, e2⟩ := h5 j (some s) _ g1 (List.getElem?_eq_getElem hjl)
    rw [List.map_id] at e2
    have hmm : s ∈ (relP S i).1 := List.mem_of_getElem? e2
    refine ⟨?_, hmm⟩
    rw [List.getElem?_eq_getElem hjl, e1, ← ixK_nodup h2 e2]
    rfl
  · have := rowK_len id ((S.map some).take i) ([] : List (List Int)) (by simp)
    have hn := nodup_sub_len (relP S i).1 (S.take i) h2 fun s hs => by
      obtain ⟨j, hj, e⟩ := hmem s hs
      exact List.mem_of_getElem? (i := j) (by rw [List.getElem?_take, if_pos hj]; exact e)
    rw [List.length_take] at hn
    omega
theorem relP_step (S : List (List Int)) (i : Nat) (s : List Int) (h : S[i]? = some s) : relP S (i + 1) = if s ∈ (relP S i).1 then ((relP S i).1, (relP S i).2 ++ [(ixK s (relP S i).1 : Int)]) else ((relP S i).1 ++ [s], (relP S i).2 ++ [((relP S i).1.length : Int)]) := by
  have hf : (S.map some).take (i + 1) = (S.map some).take i ++ [some s] := by
    rw [List.take_add_one, List.getElem?_map, h]; rfl
  unfold relP
  rw [hf, rowK_append, rowK_some, List.map_id]
  simp only [id]
  split <;> rfl
theorem relP_all (S : List (List Int)) : relP S S.length = ((rowK id [] (S.map some)).1, (rowK id [] (S.map some)).2) := by
  unfold relP
  rw [List.take_of_length_le (by simp)]
theorem relab_P (S : List (List Int)) : (relab S).1 = (relP S S.length).2 := by rw [relP_all]; rfl
/-- A table whose rows lead somewhere, always. -/
structure Tot (d : Au) : Prop where
  fin : d.final.length = d.next.length
  row : ∀ r ∈ d.next, r.length = d.names.length ∧ ∀ t ∈ r, ∃ n : Nat, t = n ∧ n < d.next.length
theorem clsN_len {d : Au} (h : Tot d) : ∀ k, (clsN d k).length = d.next.length
  | 0 => by simp [clsN, cls0, h.fin]
  | k + 1 => by
    rw [clsN, relab_P]
    have := (relP_facts (signs d (clsN d k)) (signs d (clsN d k)).length (Nat.le_refl _)).2.1
    rw [this]
    simp [signs]
theorem sign_get {d : Au} {C : List Int} {i : Nat} (hi : i < d.next.length) (hC : C.length = d.next.length) : (signs d C)[i]? = some (C[i] :: d.next[i].map (clsOf C)) := by
  have h : i < C.length := by omega
  simp [signs, hi, signOf, List.getD, h]
end Go.Proofs.D
/-
  A TABLE NUMBERED by classes: what the walks must know.
-/
set_option linter.unusedVariables false
set_option linter.unusedSimpArgs false
namespace Go.Proofs.D
open Go Go.Abs
section
variable {σ κ : Type} [DecidableEq κ] (key : σ → κ)
/-- k places of a row. -/
def rowQ (A : List σ) (l : List (Option σ)) (k : Nat) : List σ × List Int := rowK key A (l.take k)
theorem rowQ_zero (A : List σ) (l : List (Option σ)) : rowQ key A l 0 = (A, []) := by simp [rowQ, rowK]
theorem rowQ_all (A : List σ) (l : List (Option σ)) : rowQ key A l l.length = rowK key A l := by
  unfold rowQ
  rw [List.take_of_length_le (Nat.le_refl _)]
theorem rowQ_none {A : List σ} {l : List (Option σ)} {k : Nat} (h : l[k]? = some none) : rowQ key A l (k + 1) = ((rowQ key A l k).1, (rowQ key A l k).2 ++ [-1]) := by
  unfold rowQ
  rw [List.take_add_one, h, Option.toList_some, rowK_append, rowK_none]
theorem rowQ_some {A : List σ} {l : List (Option σ)} {k : Nat} {s : σ} (h : l[k]? = some (some s)) : rowQ key A l (k + 1) =
    if key s ∈ (rowQ key A l k).1.map key then ((rowQ key A l k).1, (rowQ key A l k).2 ++ [(ixK (key s) ((rowQ key A l k).1.map key) : Int)]) else ((rowQ key A l k).1 ++ [s], (rowQ key A l k).2 ++ [((rowQ key A l k).1.length : Int)]) := by
  unfold rowQ
  rw [List.take_add_one, h, Option.toList_some, rowK_append, rowK_some]
  split <;> rfl
theorem rowQ_facts {A : List σ} {l : List (Option σ)} (hn : (A.map key).Nodup) (k : Nat) (hk : k ≤ l.length) :
    ((rowQ key A l k).1.map key).Nodup ∧ (rowQ key A l k).2.length = k ∧ (rowQ key A l k).1.length ≤ (rowK key A l).1.length ∧ ∃ m, (rowQ key A l k).1 = A ++ m ∧ ∀ s ∈ m, some s ∈ l := by
  obtain ⟨m, h1, h2, h3, h4, _⟩ := rowK_spec key (l.take k) A hn
  refine ⟨h2, by unfold rowQ; rw [h4, List.length_take]; omega, ?_, m, h1, fun s hs => List.mem_of_mem_take (h3 s hs)⟩
  have := rowK_mono key (l.take k) (l.drop k) A hn
  rw [List.take_append_drop] at this
  exact this
end
/-- A table whose rows lead to states, or nowhere. -/
structure Lim (d : Au) : Prop where
  pos : 0 < d.next.length
  fin : d.final.length = d.next.length
  row : ∀ r ∈ d.next, r.length = d.names.length ∧ ∀ t ∈ r, t = -1 ∨ ∃ n : Nat, t = n ∧ n < d.next.length
theorem Tot.lim {d : Au} (h : Tot d) (h0 : 0 < d.next.length) : Lim d := ⟨h0, h.fin, fun r hr => ⟨(h.row r hr).1, fun t ht => .inr ((h.row r hr).2 t ht)⟩⟩
theorem Tot.cut {d : Au} (h : Tot d) (h0 : 0 < d.next.length) (C : List Int) (dead : Int) : Lim (cutD d C dead) := by
  refine ⟨by simpa [cutD] using h0, by simp [cutD, h.fin], fun r hr => ?_⟩
  simp only [cutD] at hr ⊢
  obtain ⟨q, hq, rfl⟩ := List.mem_map.1 hr
  obtain ⟨a, b⟩ := h.row q hq
  refine ⟨by simpa using a, fun t ht => ?_⟩
  obtain ⟨u, hu, rfl⟩ := List.mem_map.1 ht
  split
  · exact .inl rfl
  · obtain ⟨n, e, hn⟩ := b u hu
    exact .inr ⟨n, e, by simpa using hn⟩
theorem num_of {d : Au} (h : Lim d) (C : List Int) (i : Nat) : ∀ s ∈ (numM d C i).1, s < d.next.length := by
  refine met_all _ _ _ (fun s => s < d.next.length) h.pos (fun s hs t ht => ?_) i
  obtain ⟨x, hx, e⟩ := List.mem_map.1 ht
  split at e
  · cases e
  · cases e
    have e1 : d.next[s]? = some d.next[s] := by simp
    rw [e1, Option.getD_some] at hx
    rcases (h.row _ (List.getElem_mem hs)).2 x hx with q | ⟨n, rfl, q⟩
    · omega
    · simpa using q
theorem num_len {d : Au} (h : Lim d) (C : List Int) (i : Nat) : (numM d C i).1.length ≤ d.next.length := by
  have hM := met_is (fun s => C.getD s 0) (nextN d) 0 i
  have h1 : (numM d C i).1.Nodup := by
    have := hM.nodup
    exact (List.pairwise_map.1 this).imp fun hne e => hne (by rw [e])
  have := nodup_sub_len _ (List.range d.next.length) h1 fun s hs => List.mem_range.2 (num_of h C i s hs)
  simpa using this
theorem num_nodup (d : Au) (C : List Int) (i : Nat) : ((numM d C i).1.map fun s => C.getD s 0).Nodup := (met_is (fun s => C.getD s 0) (nextN d) 0 i).nodup
theorem num_rows (d : Au) (C : List Int) (i : Nat) (hi : i ≤ (numM d C i).1.length) : (numM d C i).2.length = i := by
  have h : Met (fun s => C.getD s 0) (nextN d) 0 i (numM d C i).1 (numM d C i).2 := met_is _ _ _ _
  rcases h.many with h | h <;> omega
theorem num_step (d : Au) (C : List Int) (i s : Nat) (h : (numM d C i).1[i]? = some s) : numM d C (i + 1) = ((rowK (fun s => C.getD s 0) (numM d C i).1 (nextN d s)).1, (numM d C i).2 ++ [(rowK (fun s => C.getD s 0) (numM d C i).1 (nextN d s)).2]) := by
  unfold numM at h ⊢
  simp only [met, h]
theorem num_first (d : Au) (C : List Int) : numM d C 0 = ([0], []) := rfl
theorem num_end (d : Au) (C : List Int) (i W : Nat) (h : (numM d C i).1.length ≤ i) (hi : i ≤ W) : numM d C W = numM d C i := by
  have := met_end (fun s => C.getD s 0) (nextN d) 0 i h (W - i)
  rw [show i + (W - i) = W by omega] at this
  exact this
/-- What is met stays where it is. -/
theorem num_pre (d : Au) (C : List Int) (i : Nat) : ∃ m, (numM d C (i + 1)).1 = (numM d C i).1 ++ m := by
  cases h : (numM d C i).1[i]? with
  | none =>
    refine ⟨[], ?_⟩
    rw [num_end d C i (i + 1) (List.getElem?_eq_none_iff.1 h) (by omega)]
    simp
  | some s =>
    rw [num_step d C i s h]
    obtain ⟨m, h1, _⟩ := rowK_spec (fun s => C.getD s 0) (nextN d s) (numM d C i).1 (num_nodup d C i)
    exact ⟨m, h1⟩
theorem nextN_get {d : Au} {s k : Nat} {t : Int} {r : List Int} (hr : d.next[s]? = some r) (ht : r[k]? = some t) : (nextN d s)[k]? = some (if t < 0 then none else some t.toNat) := by
  simp [nextN, hr, ht]
theorem nextN_len {d : Au} {s : Nat} {r : List Int} (hr : d.next[s]? = some r) : (nextN d s).length = r.length := by simp [nextN, hr]
end Go.Proofs.D
