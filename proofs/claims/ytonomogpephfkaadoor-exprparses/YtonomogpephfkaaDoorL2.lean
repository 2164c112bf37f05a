/-
  WHAT REPEATED EXPRESSIONS MEAN.
-/
import Derived.Test.YtonomogpephfkaaDoorD17
import Derived.Test.YtonomogpephfkaaDoorD18
import Derived.Test.YtonomogpephfkaaDoorD9
set_option linter.unusedVariables false
set_option linter.unusedSimpArgs false
namespace Go.Proofs.D
open Go Go.Abs
/-- An expression, once with one of the signs behind it. -/
abbrev suf (o : Int) (e : E) : E := .mk o ⟨#[]⟩ [e]
theorem suf_many (o : Int) (e : E) : (suf o e).many = wr .i64 (1 + e.many) := by rw [E.many_eq]; rfl
theorem many_range (e : E) : -9223372036854775808 ≤ e.many ∧ e.many < 9223372036854775808 := by
  have key : ∀ (l : List E) (n : Int), (-9223372036854775808 ≤ n ∧ n < 9223372036854775808) → (-9223372036854775808 ≤ l.foldl (fun n x => wr .i64 (n + x.many)) n ∧ l.foldl (fun n x => wr .i64 (n + x.many)) n < 9223372036854775808) := by
    intro l
    induction l with
    | nil => intro n h; exact h
    | cons x l ih =>
      intro n h
      refine ih _ ?_
      dsimp only
      rw [wr_eq, IntKind.wrap_i64]
      omega
  rw [E.many_eq]
  exact key _ _ (by omega)
theorem suf_ok {o : Int} (ho : o = 42 ∨ o = 43 ∨ o = 63) (e : E) : (suf o e).ok = (!e.suffix && e.ok) := by
  rw [E.ok_eq]
  have h1 : ¬ o = 110 := by omega
  have h2 : ¬ o = 115 := by omega
  have h3 : ¬ o = 97 := by omega
  have a1 : (suf o e).op = o := rfl
  have a2 : (suf o e).kids = [e] := rfl
  have a3 : (suf o e).name = ⟨#[]⟩ := rfl
  simp only [a1, a2, a3]
  cases hs : e.suffix with
  | true => simp [h1, h2, h3, hs]
  | false =>
    have h4 : ¬ e.op = o := by
      intro h
      simp [E.suffix] at hs
      omega
    simp [h1, h2, h3, ho, hs, h4]
theorem suf_right {o o' : Int} (ho : o = 42 ∨ o = 43 ∨ o = 63) (ho' : o' = 42 ∨ o' = 43 ∨ o' = 63) {e : E} (h : (suf o e).right = true) : (suf o' e).right = true := by
  simp only [E.right, suf_ok ho, suf_ok ho', suf_many] at h ⊢
  exact h
theorem suf_right_of {o : Int} (ho : o = 42 ∨ o = 43 ∨ o = 63) {e : E} (hc : e.many < 9223372036854775807) (h : (suf o e).right = true) : e.right = true := by
  simp only [E.right, suf_ok ho, suf_many, Bool.and_eq_true, decide_eq_true_eq] at h ⊢
  have := many_range e
  rw [wr64 _ (by omega)] at h
  exact ⟨by omega, h.2.2⟩
theorem star_L (e : E) (w : Row) : (suf 42 e).L w ↔ w = [] ∨ Many e.L w := by
  rw [L_eq]
  simp [E.op, E.kids, E.L.headL]
theorem plus_L (e : E) (w : Row) : (suf 43 e).L w ↔ Many e.L w := by
  rw [L_eq]
  simp [E.op, E.kids, E.L.headL]
theorem opt_L (e : E) (w : Row) : (suf 63 e).L w ↔ w = [] ∨ e.L w := by
  rw [L_eq]
  simp [E.op, E.kids, E.L.headL]
theorem has_iff {e : E} (h : e.right = true) (w : Row) : e.has w = true ↔ e.L w := by simp [E.has, h]
theorem has_not {e : E} (h : e.right = false) (w : Row) : e.has w = false := by simp [E.has, h]
theorem suf_small {o : Int} {e : E} (h : e.small) : (suf o e).small := E.small_mk (by decide) (by simpa using h)
theorem many_cnt (e : E) (h : e.cnt ≤ 1000000000) : e.many = e.cnt := by
  have key : ∀ (l : List E) (n : Nat), (∀ k ∈ l, k.many = k.cnt) → n + (l.map E.cnt).sum ≤ 1000000000 → l.foldl (fun n x => wr .i64 (n + x.many)) (n : Int) = ((n + (l.map E.cnt).sum : Nat) : Int) := by
    intro l
    induction l with
    | nil => intro n _ _; simp
    | cons x l ih =>
      intro n hk hn
      simp at hn
      simp only [List.foldl_cons, List.map_cons, List.sum_cons]
      rw [hk x (by simp), wr64 _ (by omega)]
      have := ih (n + x.cnt) (fun k hk' => hk k (by simp [hk'])) (by omega)
      rw [Nat.add_assoc] at this
      simpa using this
  rw [E.many_eq]
  have hc := cnt_eq e
  have := key e.kids 1 (fun k hk => many_cnt k (by have := cnt_kid hk; omega)) (by omega)
  rw [hc]
  exact this
termination_by SizeOf.sizeOf e
decreasing_by exact E.kids_lt hk
theorem light_cnt (e : E) (hs : e.small) (left : Int) (h0 : -1000000000 ≤ left) (h1 : left ≤ 1000000000) (h : 1 ≤ e.light left) : (e.cnt : Int) + e.light left ≤ left := by
  have key : ∀ l : List E, (∀ k ∈ l, ∀ x : Int, -1000000000 ≤ x → x ≤ 1000000000 → 1 ≤ k.light x → (k.cnt : Int) + k.light x ≤ x) → ∀ x : Int, x ≤ 1000000000 → 1 ≤ E.light.go l x → (((l.map E.cnt).sum : Nat) : Int) + E.light.go l x ≤ x := by
    intro l
    induction l with
    | nil => intro _ x _ _; simp [E.light.go]
    | cons y l ih =>
      intro hk x hx hg
      simp only [E.light.go] at hg ⊢
      by_cases hp : 0 < x
      · rw [if_pos hp] at hg ⊢
        by_cases hy : 1 ≤ y.light x
        · have := hk y (by simp) x (by omega) hx hy
          have := ih (fun k hk' => hk k (by simp [hk'])) (y.light x) (by omega) hg
          simp
          omega
        · exfalso
          have : E.light.go l (y.light x) = y.light x := by
            cases l with
            | nil => rfl
            | cons z l => simp only [E.light.go]; rw [if_neg (by omega)]
          omega
      · rw [if_neg hp] at hg
        omega
  have hn := E.small_name hs
  rw [light_eq] at h ⊢
  have e1 : wr .i64 (left - 1) = left - 1 := wr64 _ (by omega)
  have e2 : wr .i64 ((e.name.size : Int) / 20) = (e.name.size : Int) / 20 := wr64 _ (by omega)
  rw [e1, e2, wr64 _ (by omega)] at h ⊢
  split at h
  · omega
  · rename_i hg
    rw [if_neg hg]
    have := key e.kids (fun k hk x a1 a2 a3 => light_cnt k (E.small_kids hs k hk) x a1 a2 a3) (left - 1 - (e.name.size : Int) / 20) (by omega) (by omega)
    rw [cnt_eq]
    simp
    omega
termination_by SizeOf.sizeOf e
decreasing_by exact E.kids_lt hk
theorem light_neg (e : E) (left : Int) : e.light left < 0 ∨ 1 ≤ e.light left := by
  rw [light_eq]
  split
  · left; omega
  · right; omega
theorem star_append {e : E} (hr : (suf 42 e).right = true) {a b : Row} (ha : (suf 42 e).has a = true) (hb : (suf 42 e).has b = true) : (suf 42 e).has (a ++ b) = true := by
  have h1 := (star_L _ _).1 ((has_iff hr _).1 ha)
  have h2 := (star_L _ _).1 ((has_iff hr _).1 hb)
  refine (has_iff hr _).2 ((star_L _ _).2 ?_)
  rcases h1 with rfl | h1
  · exact h2
  · rcases h2 with rfl | h2
    · rw [List.append_nil]; exact .inr h1
    · exact .inr (h1.append h2)
end Go.Proofs.D
