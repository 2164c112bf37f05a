/-
  WHAT PAIRS MEAN.
-/
import Derived.Test.YtonomogpephfkaaDoorL2
set_option linter.unusedVariables false
set_option linter.unusedSimpArgs false
namespace Go.Proofs.D
open Go Go.Abs
/-- Two expressions, as a sequence or as alternatives. -/
abbrev pair (o : Int) (e f : E) : E := .mk o ⟨#[]⟩ [e, f]
theorem pair_small {o : Int} {e f : E} (h : e.small) (h' : f.small) : (pair o e f).small := E.small_mk (by decide) (by simp [h, h'])
theorem pair_many (o : Int) {e f : E} (he : e.cnt ≤ 1000) (hf : f.cnt ≤ 1000) : (pair o e f).many = 1 + e.cnt + f.cnt := by
  have h : (pair o e f).cnt = 1 + (e.cnt + f.cnt) := by rw [cnt_eq]; simp [E.kids]
  rw [many_cnt _ (by omega), h]
  omega
theorem pair_right {o : Int} (ho : ¬ o = 110) {e f : E} (he : e.cnt ≤ 1000) (hf : f.cnt ≤ 1000) (h : (pair o e f).right = true) : e.right = true ∧ f.right = true := by
  simp only [E.right, Bool.and_eq_true, decide_eq_true_eq, pair_many o he hf] at h ⊢
  have hk := E.ok_kids h.2 ho
  have h1 := hk e (by simp [E.kids])
  have h2 := hk f (by simp [E.kids])
  rw [many_cnt e (by omega), many_cnt f (by omega)]
  exact ⟨⟨by omega, h1.1⟩, by omega, h2.1⟩
theorem alt_L (e f : E) (w : Row) : (pair 97 e f).L w ↔ e.L w ∨ f.L w := by
  rw [L_eq]
  simp [E.op, E.kids, E.L.altL]
theorem seq_L (e f : E) (w : Row) : (pair 115 e f).L w ↔ ∃ k, k ≤ w.length ∧ e.L (w.take k) ∧ f.L (w.drop k) := by
  rw [L_eq]
  simp only [E.op, E.kids, E.L.seqL]
  simp only [show ¬ (115 : Int) = 110 from by decide, if_false, if_true]
  constructor
  · rintro ⟨u, v, rfl, h1, u', v', rfl, h2, rfl⟩
    refine ⟨u.length, by simp, ?_, ?_⟩
    · simpa using h1
    · simpa using h2
  · rintro ⟨k, hk, h1, h2⟩
    exact ⟨w.take k, w.drop k, (List.take_append_drop _ _).symm, h1, w.drop k, [], by simp, h2, rfl⟩
theorem alt_has {e f : E} (he : e.cnt ≤ 1000) (hf : f.cnt ≤ 1000) (h : (pair 97 e f).right = true) (w : Row) : (pair 97 e f).has w = (e.has w || f.has w) := by
  obtain ⟨h1, h2⟩ := pair_right (by decide) he hf h
  rw [Bool.eq_iff_iff, has_iff h, alt_L, Bool.or_eq_true, has_iff h1, has_iff h2]
/-- Is there a place, before the i-th, where a row falls into a row of each? -/
noncomputable def metB (e f : E) (w : Row) (i : Nat) : Bool := (List.range i).any fun k => e.has (w.take k) && f.has (w.drop k)
theorem metB_succ (e f : E) (w : Row) (i : Nat) : metB e f w (i + 1) = (metB e f w i || (e.has (w.take i) && f.has (w.drop i))) := by
  simp [metB, List.range_succ, List.any_append]
theorem seq_has {e f : E} (he : e.cnt ≤ 1000) (hf : f.cnt ≤ 1000) (h : (pair 115 e f).right = true) (w : Row) : (pair 115 e f).has w = metB e f w (w.length + 1) := by
  obtain ⟨h1, h2⟩ := pair_right (by decide) he hf h
  rw [Bool.eq_iff_iff, has_iff h, seq_L]
  simp only [metB, List.any_eq_true, List.mem_range, Bool.and_eq_true]
  constructor
  · rintro ⟨k, hk, a, b⟩
    exact ⟨k, by omega, (has_iff h1 _).2 a, (has_iff h2 _).2 b⟩
  · rintro ⟨k, hk, a, b⟩
    exact ⟨k, by omega, (has_iff h1 _).1 a, (has_iff h2 _).1 b⟩
end Go.Proofs.D
