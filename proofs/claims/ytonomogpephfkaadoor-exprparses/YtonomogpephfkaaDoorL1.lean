/-
  WHAT AN EXPRESSION MEANS: rows of names; places in a row.
-/
import Derived.Test.YtonomogpephfkaaDoorD2
set_option linter.unusedVariables false
set_option linter.unusedSimpArgs false
namespace Go.Proofs.D
open Go Go.Abs
abbrev Row := List ByteArray
inductive Many (p : Row → Prop) : Row → Prop
  | one {w : Row} : p w → Many p w
  | more {u v : Row} : p u → Many p v → Many p (u ++ v)
def E.L : E → Row → Prop
  | .mk op name kids => fun w =>
    if op = 110 then w = [name]
    else if op = 115 then seqL kids w
    else if op = 97 then altL kids w
    else if op = 63 then w = [] ∨ headL kids w
    else (op = 42 ∧ w = []) ∨ Many (headL kids) w
where
  seqL : List E → Row → Prop
  | [] => fun w => w = []
  | k :: l => fun w => ∃ u v, w = u ++ v ∧ k.L u ∧ seqL l v
  altL : List E → Row → Prop
  | [] => fun _ => False
  | k :: l => fun w => k.L w ∨ altL l w
  headL : List E → Row → Prop
  | [] => fun _ => False
  | k :: _ => k.L
theorem L_eq (e : E) (w : Row) : e.L w = (if e.op = 110 then w = [e.name] else if e.op = 115 then E.L.seqL e.kids w else if e.op = 97 then E.L.altL e.kids w else if e.op = 63 then w = [] ∨ E.L.headL e.kids w else (e.op = 42 ∧ w = []) ∨ Many (E.L.headL e.kids) w) := by
  obtain ⟨o, n, k⟩ := e
  simp only [E.L]
  rfl
theorem Many.snoc {p : Row → Prop} {u v : Row} (h : Many p u) (hv : p v) : Many p (u ++ v) := by
  induction h with
  | one h => exact .more h (.one hv)
  | more h _ ih => rw [List.append_assoc]; exact .more h ih
theorem Many.append {p : Row → Prop} {u v : Row} (h : Many p u) (hv : Many p v) : Many p (u ++ v) := by
  induction h with
  | one h => exact .more h hv
  | more h _ ih => rw [List.append_assoc]; exact .more h ih
theorem Many.nil {p : Row → Prop} {w : Row} (h : Many p w) (hw : w = []) : p [] := by
  induction h with
  | one h => exact hw ▸ h
  | more h _ ih => simp at hw; exact hw.1 ▸ h
/-- A piece of a row. -/
def seg (w : Row) (i j : Nat) : Row := (w.take j).drop i
theorem seg_self (w : Row) (i : Nat) : seg w i i = [] := by simp [seg]
theorem seg_add (w : Row) {i j k : Nat} (h1 : i ≤ j) (h2 : j ≤ k) : seg w i j ++ seg w j k = seg w i k := by
  have e : w.take j = (w.take k).take j := by rw [List.take_take, Nat.min_eq_left h2]
  unfold seg
  rw [e]
  generalize w.take k = l
  rw [List.drop_take]
  have : l.drop j = (l.drop i).drop (j - i) := by rw [List.drop_drop]; congr 1; omega
  rw [this, List.take_append_drop]
theorem seg_len (w : Row) {i j : Nat} (h2 : j ≤ w.length) : (seg w i j).length = j - i := by simp [seg]; omega
theorem seg_split (w : Row) {i k : Nat} (h1 : i ≤ k) (h2 : k ≤ w.length) {u v : Row} (h : seg w i k = u ++ v) : ∃ j, i ≤ j ∧ j ≤ k ∧ seg w i j = u ∧ seg w j k = v := by
  have hl := seg_len w (i := i) h2
  rw [h, List.length_append] at hl
  have ha := seg_add w (i := i) (j := i + u.length) (k := k) (by omega) (by omega)
  rw [h] at ha
  have hl2 := seg_len w (i := i) (j := i + u.length) (by omega)
  obtain ⟨e1, e2⟩ := List.append_inj ha (by omega)
  exact ⟨i + u.length, by omega, by omega, e1, e2⟩
/-- Where one may be behind what p means, begun at some places. -/
def stepP (p : Row → Prop) (w : Row) (S : Nat → Prop) (j : Nat) : Prop := j ≤ w.length ∧ ∃ i, S i ∧ i ≤ j ∧ p (seg w i j)
theorem stepP_le {p : Row → Prop} {w : Row} {S : Nat → Prop} (j : Nat) (h : stepP p w S j) : j ≤ w.length := h.1
theorem stepP_nil {w : Row} {S : Nat → Prop} (hS : ∀ i, S i → i ≤ w.length) : stepP (fun v => v = []) w S = S := by
  funext j
  apply propext
  constructor
  · rintro ⟨h1, i, h2, h3, h4⟩
    have := seg_len w (i := i) h1
    rw [h4] at this
    simp at this
    have : i = j := by omega
    exact this ▸ h2
  · intro h
    exact ⟨hS j h, j, h, Nat.le_refl _, seg_self w j⟩
theorem stepP_cat (p q : Row → Prop) (w : Row) (S : Nat → Prop) : stepP (fun x => ∃ u v, x = u ++ v ∧ p u ∧ q v) w S = stepP q w (stepP p w S) := by
  funext k
  apply propext
  constructor
  · rintro ⟨h1, i, h2, h3, u, v, h4, h5, h6⟩
    obtain ⟨j, a1, a2, rfl, rfl⟩ := seg_split w h3 h1 h4
    exact ⟨h1, j, ⟨by omega, i, h2, a1, h5⟩, a2, h6⟩
  · rintro ⟨h1, j, ⟨h2, i, h3, h4, h5⟩, h6, h7⟩
    exact ⟨h1, i, h3, by omega, _, _, (seg_add w h4 h6).symm, h5, h7⟩
theorem stepP_or (p q : Row → Prop) (w : Row) (S : Nat → Prop) (j : Nat) : stepP (fun x => p x ∨ q x) w S j ↔ stepP p w S j ∨ stepP q w S j := by
  constructor
  · rintro ⟨h1, i, h2, h3, h4 | h4⟩
    · exact .inl ⟨h1, i, h2, h3, h4⟩
    · exact .inr ⟨h1, i, h2, h3, h4⟩
  · rintro (⟨h1, i, h2, h3, h4⟩ | ⟨h1, i, h2, h3, h4⟩)
    · exact ⟨h1, i, h2, h3, .inl h4⟩
    · exact ⟨h1, i, h2, h3, .inr h4⟩
theorem stepP_mono {p : Row → Prop} {w : Row} {S T : Nat → Prop} (h : ∀ i, S i → T i) (j : Nat) : stepP p w S j → stepP p w T j := fun ⟨h1, i, h2, h3⟩ => ⟨h1, i, h _ h2, h3⟩
theorem stepP_union {p : Row → Prop} {w : Row} {S T : Nat → Prop} (j : Nat) : stepP p w (fun i => S i ∨ T i) j ↔ stepP p w S j ∨ stepP p w T j := by
  constructor
  · rintro ⟨h1, i, h2 | h2, h3⟩
    · exact .inl ⟨h1, i, h2, h3⟩
    · exact .inr ⟨h1, i, h2, h3⟩
  · rintro (⟨h1, i, h2, h3⟩ | ⟨h1, i, h2, h3⟩)
    · exact ⟨h1, i, .inl h2, h3⟩
    · exact ⟨h1, i, .inr h2, h3⟩
theorem stepP_name (n : ByteArray) (w : Row) (S : Nat → Prop) (j : Nat) : stepP (fun v => v = [n]) w S j ↔ ∃ k, S k ∧ j = k + 1 ∧ w[k]? = some n := by
  constructor
  · rintro ⟨h1, i, h2, h3, h4⟩
    have hl := seg_len w (i := i) h1
    rw [h4] at hl
    simp at hl
    refine ⟨i, h2, by omega, ?_⟩
    have : (seg w i j)[0]? = some n := by rw [h4]; rfl
    unfold seg at this
    rw [List.getElem?_drop, List.getElem?_take] at this
    rw [if_pos (by omega)] at this
    simpa using this
  · rintro ⟨k, h2, rfl, h4⟩
    have hk := (List.getElem?_eq_some_iff.1 h4).1
    refine ⟨hk, k, h2, by omega, ?_⟩
    apply List.ext_getElem?
    intro m
    unfold seg
    rw [List.getElem?_drop, List.getElem?_take]
    cases m with
    | zero => rw [if_pos (by omega)]; simpa using h4
    | succ m => rw [if_neg (by omega)]; rfl
/-- The rounds of a repeated expression: out, and where one is next; B: what was in out at first. -/
structure Rounds (p : Row → Prop) (w : Row) (S B O X : Nat → Prop) : Prop where
  base : ∀ i, B i → O i
  all : ∀ i, O i → B i ∨ stepP (Many p) w S i
  next : ∀ i, X i → stepP (Many p) w S i
  first : ∀ i, stepP p w S i → O i ∨ X i
  more : ∀ i, stepP p w O i → O i ∨ X i
theorem rounds_start {p : Row → Prop} {w : Row} {S B : Nat → Prop} (hB : ∀ i, B i → S i) : Rounds p w S B B (stepP p w S) :=
  ⟨fun _ h => h, fun _ h => .inl h, fun i ⟨h1, k, h2, h3, h4⟩ => ⟨h1, k, h2, h3, .one h4⟩, fun _ h => .inr h, fun i h => .inr (stepP_mono hB i h)⟩
theorem rounds_step {p : Row → Prop} {w : Row} {S B O X : Nat → Prop} (h : Rounds p w S B O X) : Rounds p w S B (fun i => O i ∨ X i) (stepP p w X) := by
  refine ⟨fun i hi => .inl (h.base i hi), fun i hi => ?_, fun i hi => ?_, fun i hi => .inl (h.first i hi), fun i hi => ?_⟩
  · rcases hi with hi | hi
    · exact h.all i hi
    · exact .inr (h.next i hi)
  · obtain ⟨h1, j, h2, h3, h4⟩ := hi
    obtain ⟨a1, k, a2, a3, a4⟩ := h.next j h2
    exact ⟨h1, k, a2, by omega, by rw [← seg_add w a3 h3]; exact a4.snoc h4⟩
  · rcases (stepP_union i).1 hi with h1 | h1
    · exact .inl (h.more i h1)
    · exact .inr h1
theorem rounds_end {p : Row → Prop} {w : Row} {S B O X : Nat → Prop} (h : Rounds p w S B O X) (hx : ∀ i, X i → O i) (j : Nat) : O j ↔ B j ∨ stepP (Many p) w S j := by
  refine ⟨h.all j, fun hj => ?_⟩
  rcases hj with hj | ⟨h1, i, h2, h3, h4⟩
  · exact h.base j hj
  · have key : ∀ x, Many p x → ∀ i, (S i ∨ O i) → i ≤ j → seg w i j = x → O j := by
      intro x hm
      induction hm with
      | one hp =>
        intro i hi hij e
        subst e
        rcases hi with hi | hi
        · rcases h.first j ⟨h1, i, hi, hij, hp⟩ with a | a
          · exact a
          · exact hx j a
        · rcases h.more j ⟨h1, i, hi, hij, hp⟩ with a | a
          · exact a
          · exact hx j a
      | more hp _ ih =>
        intro i hi hij e
        obtain ⟨m, a1, a2, rfl, rfl⟩ := seg_split w hij h1 e
        refine ih m (.inr ?_) a2 rfl
        rcases hi with hi | hi
        · rcases h.first m ⟨by omega, i, hi, a1, hp⟩ with a | a
          · exact a
          · exact hx m a
        · rcases h.more m ⟨by omega, i, hi, a1, hp⟩ with a | a
          · exact a
          · exact hx m a
    exact key _ h4 i (.inl h2) h3 rfl
end Go.Proofs.D
