/-
  WHAT IS QUOTED, as the library replaces its signs.
-/
import Derived.Test.YtdlnenkemolnlaaGreatDoorP1
import Derived.Lib.Replace
set_option linter.unusedVariables false
set_option linter.unusedSimpArgs false
namespace Go.Proofs.D
open Go Go.Abs
theorem index_cons_eq (c : UInt8) (l : List UInt8) : Lib.index (c :: l) [c] = 0 :=
  Lib.index_first (i := 0) (Nat.zero_le _) (by simp [Lib.occAt]) (fun _ h => absurd h (Nat.not_lt_zero _))
theorem index_cons_ne (b c : UInt8) (l : List UInt8) (h : b ≠ c) (i : Nat) (hi : Lib.index l [c] = i) : Lib.index (b :: l) [c] = ((i + 1 : Nat) : Int) := by
  rcases Lib.index_spec l [c] with ⟨h1, _⟩ | ⟨j, h1, h2, h3, h4⟩
  · omega
  · obtain rfl : j = i := by omega
    refine Lib.index_first (by simp; omega) (by simpa [Lib.occAt] using h3) fun k hk => ?_
    cases k with
    | zero =>
      have : ¬ c = b := fun e => h e.symm
      simp [Lib.occAt, List.isPrefixOf, this]
    | succ k => have := h4 k (by omega); simpa [Lib.occAt] using this
theorem replaceK_one (c : UInt8) (new : List UInt8) : ∀ s : List UInt8, Lib.replaceK [c] new (Lib.count s [c]) s = s.flatMap fun b => if b = c then new else [b]
  | [] => by
    have : Lib.count [] [c] = 0 := by rw [Lib.count_one]; rfl
    rw [this]; rfl
  | b :: l => by
    have ih := replaceK_one c new l
    by_cases h : b = c
    · subst h
      rw [Lib.count_cons_eq, Nat.add_comm, Lib.replaceK_hit [b] new _ _ 0 (index_cons_eq b l)]
      simp only [List.take_zero, List.nil_append, List.length_cons, List.length_nil, Nat.zero_add, List.drop_succ_cons, List.drop_zero, List.flatMap_cons, if_true]
      rw [ih]
    · rw [Lib.count_cons_ne _ _ _ h]
      rw [List.flatMap_cons, if_neg h, List.singleton_append, ← ih]
      cases hk : Lib.count l [c] with
      | zero => rfl
      | succ k =>
        obtain ⟨i, hi⟩ := Lib.index_of_count (s := l) (old := [c]) (by omega)
        rw [Lib.replaceK_hit [c] new _ _ (i + 1) (index_cons_ne b c l h i hi), Lib.replaceK_hit [c] new _ _ i hi]
        simp
theorem replace1 (c : UInt8) (new s : List UInt8) (h : ([c] == new) = false) : Lib.replaceAll s [c] new = s.flatMap fun b => if b = c then new else [b] := by
  unfold Lib.replaceAll Lib.replace
  rw [if_neg (by rw [h]; decide)]
  have : Lib.replaceNum s [c] (-1) = Lib.count s [c] := by
    unfold Lib.replaceNum
    rw [if_pos (.inl (by decide))]
  rw [this, replaceK_one]
theorem esc_eq (s : List UInt8) : Lib.replaceAll (Lib.replaceAll s [92] [92, 92]) [34] [92, 34] = esc s := by
  rw [replace1 92 [92, 92] s (by decide), replace1 34 [92, 34] _ (by decide)]
  induction s with
  | nil => rfl
  | cons b l ih =>
    simp only [List.flatMap_cons, List.flatMap_append, esc, ih]
    by_cases h : b = 92
    · subst h; simp
    · by_cases h2 : b = 34
      · subst h2; simp
      · simp [h, h2]
end Go.Proofs.D
