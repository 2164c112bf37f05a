/-
  WHAT AN EXPRESSION MEANS, by its names.
-/
import Derived.Test.YtonomogpephfkaaDoorL7
import Derived.Sort.Walk0
set_option linter.unusedVariables false
set_option linter.unusedSimpArgs false
namespace Go.Proofs.D
open Go Go.Abs
theorem L_occ (e : E) (hok : e.ok = true) (w : Row) (h : e.L w) : ∀ x ∈ w, e.occ x := by
  have IH : ∀ k ∈ e.kids, ¬ e.op = 110 → ∀ v : Row, k.L v → ∀ x ∈ v, e.occ x := fun k hk hop v hv x hx => by
    rw [occ_eq, if_neg hop]
    exact ⟨k, hk, L_occ k (E.ok_kids hok hop k hk).1 v hv x hx⟩
  have hmany : ∀ (p : Row → Prop), (∀ v, p v → ∀ x ∈ v, e.occ x) → ∀ v, Many p v → ∀ x ∈ v, e.occ x := by
    intro p hp v hv
    induction hv with
    | one h => exact hp _ h
    | more h _ ih =>
      intro x hx
      rcases List.mem_append.1 hx with hx | hx
      · exact hp _ h x hx
      · exact ih x hx
  rw [L_eq] at h
  rcases E.ok_ops hok with ⟨h1, _⟩ | ⟨h1, _, _⟩ | ⟨h1, _, _⟩ | ⟨h1, _, k, h2, _⟩
  · rw [if_pos h1] at h
    intro x hx
    rw [h] at hx
    simp at hx
    rw [occ_eq, if_pos h1]
    exact hx
  · rw [if_neg (by omega), if_pos h1] at h
    have key : ∀ l : List E, (∀ k ∈ l, k ∈ e.kids) → ∀ v, E.L.seqL l v → ∀ x ∈ v, e.occ x := by
      intro l
      induction l with
      | nil => intro _ v hv x hx; simp only [E.L.seqL] at hv; rw [hv] at hx; cases hx
      | cons y l ih =>
        intro hl v hv x hx
        simp only [E.L.seqL] at hv
        obtain ⟨u, t, rfl, h1', h2'⟩ := hv
        rcases List.mem_append.1 hx with hx | hx
        · exact IH y (hl y (by simp)) (by omega) u h1' x hx
        · exact ih (fun k hk => hl k (by simp [hk])) t h2' x hx
    exact key e.kids (fun _ h => h) w h
  · rw [if_neg (by omega), if_neg (by omega), if_pos h1] at h
    have key : ∀ l : List E, (∀ k ∈ l, k ∈ e.kids) → E.L.altL l w → ∀ x ∈ w, e.occ x := by
      intro l
      induction l with
      | nil => intro _ hv; exact hv.elim
      | cons y l ih =>
        intro hl hv x hx
        simp only [E.L.altL] at hv
        rcases hv with hv | hv
        · exact IH y (hl y (by simp)) (by omega) w hv x hx
        · exact ih (fun k hk => hl k (by simp [hk])) hv x hx
    exact key e.kids (fun _ h => h) h
  · rw [if_neg (by omega), if_neg (by omega), if_neg (by omega), h2] at h
    have hk : ∀ v, E.L.headL [k] v → ∀ x ∈ v, e.occ x := fun v hv => IH k (by rw [h2]; simp) (by omega) v hv
    split at h
    · rcases h with rfl | h
      · simp
      · exact hk w h
    · rcases h with ⟨_, rfl⟩ | h
      · simp
      · exact hmany _ hk w h
termination_by SizeOf.sizeOf e
decreasing_by exact E.kids_lt hk
theorem has_occ {e : E} {w : Row} (h : e.has w = true) : e.right = true ∧ ∀ x ∈ w, x ∈ e.names := by
  cases hr : e.right with
  | false => rw [has_not hr] at h; cases h
  | true =>
    have hok : e.ok = true := by simp [E.right] at hr; exact hr.2
    exact ⟨rfl, fun x hx => (names_mem e x).2 (L_occ e hok w ((has_iff hr w).1 h) x hx)⟩
theorem names_next (e : E) (j : Nat) (h : j + 1 < e.names.length) : (Op.bytesLess (e.names[j + 1]).toList (e.names[j]).toList) = false ∧ ¬ e.names[j + 1] = e.names[j] := by
  have h1 := List.pairwise_iff_getElem.1 (names_rise e) j (j + 1) (by simpa using Nat.lt_of_succ_lt h) (by simpa using h) (by omega)
  simp only [List.getElem_map] at h1
  constructor
  · rw [Go.Proofs.bytesLess_eq]
    simp only [decide_eq_false_iff_not]
    intro h2
    rw [ByteArray.toList_eq, ByteArray.toList_eq] at h2
    exact absurd h1 (List.lt_asymm h2)
  · intro he
    rw [he] at h1
    exact List.lt_irrefl _ h1
end Go.Proofs.D
