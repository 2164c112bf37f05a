/-
  SETS OF PLACES, as maps from them to one.
-/
import Derived.Test.YtonomogpephfkaaDoorAbsM
set_option linter.unusedVariables false
set_option linter.unusedSimpArgs false
namespace Go.Abs
open Go.RowKit Go.ChangeMaps Go.MapKept
open Go.Maps (Keyed Tidy IsMap)

/-- A datum that holds one at each place of S, all of them up to N. -/
structure SetD (N : Nat) (S : Nat → Prop) (D : DataW Unit) : Prop where
  has : ∀ kl, Maps.has D kl = true ↔ ∃ i : Nat, kl = .int .i64 i ∧ S i
  le : ∀ i, S i → i ≤ N
  val : ∀ i z, S i → D.atKey (.int .i64 (i : Nat)) z = .lit (.int .i64 1)
open Classical in
noncomputable def cardN (N : Nat) (S : Nat → Prop) : Nat := ((List.range (N + 1)).filter fun i => decide (S i)).length
theorem cardN_le (N : Nat) (S : Nat → Prop) : cardN N S ≤ N + 1 := by
  unfold cardN
  have := List.length_filter_le (fun i => @decide (S i) (Classical.propDecidable _)) (List.range (N + 1))
  simpa using this
theorem filter_mono {α : Type} {p q : α → Bool} (h : ∀ x, p x = true → q x = true) : ∀ l : List α, (l.filter p).Sublist (l.filter q)
  | [] => by simp
  | x :: l => by
    have ih := filter_mono h l
    cases hp : p x
    · cases hq : q x
      · simpa [hp, hq] using ih
      · simpa [hp, hq] using ih.cons x
    · simpa [hp, h x hp] using ih.cons_cons x
theorem cardN_mono {N : Nat} {S T : Nat → Prop} (h : ∀ i, S i → T i) : cardN N S ≤ cardN N T := by
  unfold cardN
  exact (filter_mono (fun i hi => by simpa using h i (by simpa using hi)) _).length_le
theorem cardN_eq {N : Nat} {S T : Nat → Prop} (h : ∀ i, S i → T i) (he : cardN N T = cardN N S) (i : Nat) (hN : i ≤ N) (hi : T i) : S i := by
  unfold cardN at he
  have hs := filter_mono (p := fun i => @decide (S i) (Classical.propDecidable _)) (q := fun i => @decide (T i) (Classical.propDecidable _)) (fun i hi => by simpa using h i (by simpa using hi)) (List.range (N + 1))
  have := hs.eq_of_length he.symm
  have hm : i ∈ (List.range (N + 1)).filter (fun i => @decide (T i) (Classical.propDecidable _)) := by simp [hi]; omega
  rw [← this] at hm
  simpa using (List.mem_filter.1 hm).2
theorem cardN_lt {N : Nat} {S T : Nat → Prop} (h : ∀ i, S i → T i) (i : Nat) (hN : i ≤ N) (hi : T i) (hn : ¬ S i) : cardN N S < cardN N T := by
  rcases Nat.lt_or_ge (cardN N S) (cardN N T) with h1 | h1
  · exact h1
  · exact absurd (cardN_eq h (Nat.le_antisymm h1 (cardN_mono h)) i hN hi) hn
theorem SetD.empty (N : Nat) : SetD N (fun _ => False) (.map []) := ⟨fun kl => by simp [Maps.has], fun i h => h.elim, fun i z h => h.elim⟩
theorem key_int (i : Int) : WideAt.IsKeyLit (.int .i64 i) := by simp [WideAt.IsKeyLit]
theorem SetD.put {N : Nat} {S : Nat → Prop} {D : DataW Unit} (h : SetD N S D) (hD : IsMap D) {i : Nat} (hi : i ≤ N) : SetD N (fun j => S j ∨ j = i) (D.put (.int .i64 (i : Nat)) (.lit (.int .i64 1))) := by
  refine ⟨fun kl => ?_, fun j hj => ?_, fun j z hj => ?_⟩
  · by_cases hk : kl = .int .i64 (i : Nat)
    · subst hk
      rw [Maps.has_put_same hD (key_int _)]
      simp
      exact ⟨i, rfl, .inr rfl⟩
    · rw [Maps.has_put_other hk, h.has kl]
      constructor
      · rintro ⟨j, rfl, hj⟩; exact ⟨j, rfl, .inl hj⟩
      · rintro ⟨j, rfl, hj | rfl⟩
        · exact ⟨j, rfl, hj⟩
        · exact absurd rfl hk
  · rcases hj with hj | rfl
    · exact h.le j hj
    · exact hi
  · by_cases hji : j = i
    · subst hji; exact Maps.atKey_put_same hD (key_int _) _ _
    · rw [Maps.atKey_put_other (by simp; omega)]
      exact h.val j z (by rcases hj with hj | hj; exact hj; exact absurd hj hji)
theorem nodup_map_int : ∀ (l : List (Lit × DataW Unit)) (m : List Nat), l.Pairwise (fun p q => p.1 ≠ q.1) → (∀ p ∈ l, ∃ i ∈ m, p.1 = .int .i64 (i : Nat)) → l.length ≤ m.length
  | [], m, _, _ => by simp
  | p :: l, m, hp, hm => by
    obtain ⟨h1, h2⟩ := List.pairwise_cons.1 hp
    obtain ⟨i, hi, e⟩ := hm p (by simp)
    have := nodup_map_int l (m.erase i) h2 (fun q hq => by
      obtain ⟨j, hj, e'⟩ := hm q (by simp [hq])
      refine ⟨j, ?_, e'⟩
      have : j ≠ i := fun h => h1 q hq (by rw [e, e', h])
      exact (List.mem_erase_of_ne this).2 hj)
    rw [List.length_erase_of_mem hi] at this
    have : 0 < m.length := List.length_pos_of_mem hi
    simp
    omega
theorem len_le_map : ∀ (m : List Nat) (l : List (Lit × DataW Unit)), m.Nodup → (∀ i ∈ m, ∃ p ∈ l, p.1 = .int .i64 (i : Nat)) → m.length ≤ l.length
  | [], l, _, _ => by simp
  | i :: m, l, hn, hm => by
    obtain ⟨h1, h2⟩ := List.nodup_cons.1 hn
    obtain ⟨p, hp, e⟩ := hm i (by simp)
    obtain ⟨l1, l2, rfl⟩ := List.append_of_mem hp
    have := len_le_map m (l1 ++ l2) h2 (fun j hj => by
      obtain ⟨q, hq, e'⟩ := hm j (by simp [hj])
      refine ⟨q, ?_, e'⟩
      rcases List.mem_append.1 hq with h | h
      · simp [h]
      · rcases List.mem_cons.1 h with rfl | h
        · rw [e] at e'
          simp at e'
          exact absurd (by omega : i = j) (fun e => h1 (e ▸ hj))
        · simp [h])
    simp at this ⊢
    omega
theorem SetD.size {N : Nat} {S : Nat → Prop} {D : DataW Unit} (h : SetD N S D) (hT : Clean D) : Maps.size D = cardN N S := by
  obtain ⟨es, rfl, hp, hk⟩ := hT
  have hmem : ∀ p ∈ es, ∃ i ∈ (List.range (N + 1)).filter (fun i => @decide (S i) (Classical.propDecidable _)), p.1 = .int .i64 (i : Nat) := by
    intro p hp'
    have : Maps.has (.map es) p.1 = true := List.any_eq_true.2 ⟨p, hp', WideAt.sameKey_self (hk p hp')⟩
    obtain ⟨i, e, hi⟩ := (h.has p.1).1 this
    have := h.le i hi
    exact ⟨i, by simp [hi]; omega, e⟩
  refine Nat.le_antisymm (nodup_map_int es _ hp hmem) (len_le_map _ es (List.nodup_range.filter _) fun i hi => ?_)
  simp at hi
  obtain ⟨p, hp', e⟩ := List.any_eq_true.1 ((h.has (.int .i64 (i : Nat))).2 ⟨i, rfl, hi.2⟩)
  exact ⟨p, hp', WideAt.sameKey_eq e⟩
/-- A set of places, all up to N, in memory. -/
abbrev setQ (P : Program) (k e N : Nat) (S : Nat → Prop) : Obj → Prop := mapQ P k e (SetD N S)
end Go.Abs
