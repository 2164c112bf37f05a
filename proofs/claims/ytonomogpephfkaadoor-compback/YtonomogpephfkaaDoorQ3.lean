/-
  NODES, as they are read.
-/
import Derived.Test.YtonomogpephfkaaDoorP2
set_option linter.unusedVariables false
set_option linter.unusedSimpArgs false
namespace Go.Proofs.D
open Go Go.Abs
def bytesOf (l : Bs) : ByteArray := ⟨l.toArray⟩
/-- What is left, and whether it went wrong. -/
abbrev Rs := Bs × Bool
def takesB (c : UInt8) : Bs → Bool × Bs
  | [] => (false, [])
  | x :: l => if x = c then (true, l) else (false, x :: l)
def wantB (c : UInt8) (st : Rs) : Rs := ((takesB c st.1).2, !(takesB c st.1).1 || st.2)
def nameB (l : Bs) : Bs × Bs := (l.takeWhile low8, l.dropWhile low8)
def quotedGo : Bs → Bs → Option (Bs × Bs)
  | [], _ => none
  | [c], s => if c = 34 then some (s, []) else none
  | c :: d :: l, s => if c = 34 then some (s, d :: l) else if c = 92 then quotedGo l (s ++ [d]) else quotedGo (d :: l) (s ++ [c])
def quotedB (st : Rs) : Bs × Rs :=
  if (wantB 34 st).2 = true then ([], ((wantB 34 st).1, true)) else match quotedGo (wantB 34 st).1 [] with
    | some (s, r) => (s, (r, false))
    | none => ([], ((wantB 34 st).1, true))
theorem takes_le (c : UInt8) (l : Bs) : (takesB c l).2.length ≤ l.length ∧ ((takesB c l).1 = true → (takesB c l).2.length + 1 = l.length) := by
  cases l with
  | nil => simp [takesB]
  | cons x l =>
    simp only [takesB]
    split <;> simp
theorem name_le (l : Bs) : (nameB l).1.length + (nameB l).2.length = l.length := by
  have := List.takeWhile_append_dropWhile (p := low8) (l := l)
  simp only [nameB]
  rw [← List.length_append, this]
theorem quotedGo_le : ∀ (l s : Bs) (r : Bs × Bs), quotedGo l s = some r → r.1.length + r.2.length + 1 ≤ s.length + l.length
  | [], s, r, h => by simp [quotedGo] at h
  | [c], s, r, h => by
    simp only [quotedGo] at h
    split at h
    · cases h; simp
    · cases h
  | c :: d :: l, s, r, h => by
    simp only [quotedGo] at h
    split at h
    · cases h; simp; omega
    · split at h
      · have := quotedGo_le l (s ++ [d]) r h
        simp at this ⊢; omega
      · have := quotedGo_le (d :: l) (s ++ [c]) r h
        simp at this ⊢; omega
theorem want_le (c : UInt8) (st : Rs) : (wantB c st).1.length ≤ st.1.length ∧ ((wantB c st).2 = false → st.2 = false ∧ (wantB c st).1.length + 1 = st.1.length) := by
  obtain ⟨h1, h2⟩ := takes_le c st.1
  refine ⟨h1, fun h => ?_⟩
  simp only [wantB, Bool.or_eq_false_iff, Bool.not_eq_false'] at h
  exact ⟨h.2, h2 h.1⟩
theorem quoted_le (st : Rs) : (quotedB st).1.length + (quotedB st).2.1.length ≤ st.1.length ∧ ((quotedB st).2.2 = false → st.2 = false ∧ (quotedB st).1.length + (quotedB st).2.1.length + 2 ≤ st.1.length) := by
  obtain ⟨h1, h2⟩ := want_le 34 st
  unfold quotedB
  cases hb : (wantB 34 st).2 with
  | true => simp; exact h1
  | false =>
    obtain ⟨h3, h4⟩ := h2 hb
    simp only [Bool.false_eq_true, if_false]
    cases hq : quotedGo (wantB 34 st).1 [] with
    | none => simp; exact h1
    | some r =>
      obtain ⟨s, r⟩ := r
      have := quotedGo_le _ _ _ hq
      simp at this ⊢
      exact ⟨by omega, h3, by omega⟩
def marksGo (l : Bs) : List Bs × Bs :=
  if h : (takesB 44 (nameB l).2).1 = true then ((nameB l).1 :: (marksGo (takesB 44 (nameB l).2).2).1, (marksGo (takesB 44 (nameB l).2).2).2)
  else ([(nameB l).1], (takesB 44 (nameB l).2).2)
termination_by l.length
decreasing_by all_goals (have h1 := (takes_le 44 (nameB l).2).2 h; have h2 := name_le l; omega)
def textB (st : Rs) : N × Rs :=
  if (takesB 60 (quotedB st).2.1).1 = true then
    (.mk textK (bytesOf (quotedB st).1) ((marksGo (takesB 60 (quotedB st).2.1).2).1.map bytesOf) [] [], wantB 62 ((marksGo (takesB 60 (quotedB st).2.1).2).2, (quotedB st).2.2))
  else (.mk textK (bytesOf (quotedB st).1) [] [] [], (quotedB st).2)
/-- An attribute; what is left. -/
def attrB1 (l : Bs) : (Bs × Bs) × Rs := (((nameB l).1, (quotedB (wantB 61 ((nameB l).2, false))).1), (quotedB (wantB 61 ((nameB l).2, false))).2)
theorem attr1_le (l : Bs) : (attrB1 l).1.1.length + (attrB1 l).1.2.length + (attrB1 l).2.1.length ≤ l.length := by
  have h1 := name_le l
  have h2 := (want_le 61 ((nameB l).2, false)).1
  have h3 := (quoted_le (wantB 61 ((nameB l).2, false))).1
  simp only [attrB1] at *
  omega
def attrsGo (st : Rs) : List (Bs × Bs) × Rs :=
  if st.2 = true then ([], st) else
  if h : (takesB 32 (attrB1 st.1).2.1).1 = true then ((attrB1 st.1).1 :: (attrsGo ((takesB 32 (attrB1 st.1).2.1).2, (attrB1 st.1).2.2)).1, (attrsGo ((takesB 32 (attrB1 st.1).2.1).2, (attrB1 st.1).2.2)).2)
  else ([(attrB1 st.1).1], ((takesB 32 (attrB1 st.1).2.1).2, (attrB1 st.1).2.2))
termination_by st.1.length
decreasing_by all_goals (have h1 := (takes_le 32 (attrB1 st.1).2.1).2 h; have h2 := attr1_le st.1; omega)
def pairB (p : Bs × Bs) : ByteArray × ByteArray := (bytesOf p.1, bytesOf p.2)
/-- No kid comes. -/
def stopK (st : Rs) : Bool := st.2 || (match st.1 with | [] => true | c :: _ => decide (c = 93))
def kidsF (f : Rs → N × Rs) : Nat → Rs → List N × Rs
  | 0, st => ([], st)
  | j + 1, st => if stopK st = true then ([], st) else ((f st).1 :: (kidsF f j (f st).2).1, (kidsF f j (f st).2).2)
/-- The attributes that come, if any. -/
def attrsB (st : Rs) : List (Bs × Bs) × Rs :=
  if (takesB 40 st.1).1 = true then ((attrsGo ((takesB 40 st.1).2, st.2)).1, wantB 41 (attrsGo ((takesB 40 st.1).2, st.2)).2) else ([], ((takesB 40 st.1).2, st.2))
def quoteNext (l : Bs) : Bool := match l with | [] => false | c :: _ => decide (c = 34)
def nodeF : Nat → Rs → N × Rs
  | 0, st => (.mk ⟨#[]⟩ ⟨#[]⟩ [] [] [], st)
  | k + 1, st => if quoteNext st.1 = true then textB st else
      (.mk (bytesOf (nameB st.1).1) ⟨#[]⟩ [] ((attrsB ((nameB st.1).2, st.2)).1.map pairB) (kidsF (nodeF k) ((wantB 91 (attrsB ((nameB st.1).2, st.2)).2).1.length + 1) (wantB 91 (attrsB ((nameB st.1).2, st.2)).2)).1,
        wantB 93 (kidsF (nodeF k) ((wantB 91 (attrsB ((nameB st.1).2, st.2)).2).1.length + 1) (wantB 91 (attrsB ((nameB st.1).2, st.2)).2)).2)
/-! ### how much is read -/
theorem marks_le : ∀ (n : Nat) (l : Bs), l.length ≤ n → names1 ((marksGo l).1.map bytesOf) + (marksGo l).2.length ≤ l.length + 1
  | n, l, hn => by
    have h1 := name_le l
    have h2 := takes_le 44 (nameB l).2
    have hs : (bytesOf (nameB l).1).size = (nameB l).1.length := rfl
    rw [marksGo]
    split
    · rename_i h
      have h3 := h2.2 h
      have h4 := marks_le (n - 1) (takesB 44 (nameB l).2).2 (by omega)
      simp only [names1, List.map_cons, List.sum_cons] at h4 ⊢
      omega
    · simp only [names1, List.map_cons, List.map_nil, List.sum_cons, List.sum_nil]
      omega
termination_by n l => l.length
theorem attrs_le : ∀ (n : Nat) (st : Rs), st.1.length ≤ n → attrs1 ((attrsGo st).1.map pairB) + (attrsGo st).2.1.length ≤ st.1.length + 1
  | n, st, hn => by
    have h1 := attr1_le st.1
    have h2 := takes_le 32 (attrB1 st.1).2.1
    have hs1 : (pairB (attrB1 st.1).1).1.size = (attrB1 st.1).1.1.length := rfl
    have hs2 : (pairB (attrB1 st.1).1).2.size = (attrB1 st.1).1.2.length := rfl
    rw [attrsGo]
    split
    · simp [attrs1]
    · split
      · rename_i h
        have h3 := h2.2 h
        have h4 := attrs_le (n - 1) ((takesB 32 (attrB1 st.1).2.1).2, (attrB1 st.1).2.2) (by dsimp only; omega)
        simp only [attrs1, List.map_cons, List.sum_cons] at h4 ⊢
        omega
      · simp only [attrs1, List.map_cons, List.map_nil, List.sum_cons, List.sum_nil]
        omega
termination_by n st => st.1.length
end Go.Proofs.D
/-
  NODES, as they are read: how heavy they are.
-/
set_option linter.unusedVariables false
set_option linter.unusedSimpArgs false
namespace Go.Proofs.D
open Go Go.Abs
theorem bytesOf_size (l : Bs) : (bytesOf l).size = l.length := rfl
def NodeLe (f : Rs → N × Rs) (m : Nat) : Prop := ∀ l : Bs, l.length < m → (f (l, false)).1.wt + 6 * (f (l, false)).2.1.length ≤ 6 * l.length + 6 ∧ ((f (l, false)).2.2 = false → (f (l, false)).1.wt + 6 * (f (l, false)).2.1.length ≤ 6 * l.length)
theorem kids_le {f : Rs → N × Rs} {m : Nat} (hf : NodeLe f m) : ∀ (j : Nat) (st : Rs), st.1.length < m → N.wt.go (kidsF f j st).1 + 6 * (kidsF f j st).2.1.length ≤ 6 * st.1.length + 6 ∧ ((kidsF f j st).2.2 = false → N.wt.go (kidsF f j st).1 + 6 * (kidsF f j st).2.1.length ≤ 6 * st.1.length ∧ st.2 = false) ∧ (st.2 = true → kidsF f j st = ([], st))
  | 0, st, hm => by
    simp only [kidsF, N.wt.go]
    exact ⟨by omega, fun h => ⟨by omega, h⟩, fun _ => trivial⟩
  | j + 1, st, hm => by
    simp only [kidsF]
    cases hs : stopK st with
    | true =>
      simp only [if_true, N.wt.go]
      exact ⟨by omega, fun h => ⟨by omega, h⟩, fun _ => trivial⟩
    | false =>
      have hb : st.2 = false := by
        simp only [stopK, Bool.or_eq_false_iff] at hs
        exact hs.1
      obtain ⟨l, b⟩ := st
      simp only at hb
      subst hb
      obtain ⟨h1, h2⟩ := hf l hm
      have hp := wt_pos (f (l, false)).1
      simp only [Bool.false_eq_true, if_false, N.wt.go]
      cases hfb : (f (l, false)).2.2 with
      | true =>
        by_cases hlt : (f (l, false)).2.1.length < m
        · obtain ⟨i1, i2, i3⟩ := kids_le hf j (f (l, false)).2 hlt
          rw [i3 hfb]
          simp only [N.wt.go]
          exact ⟨by omega, fun h => by rw [hfb] at h; (cases h), fun h => nomatch h⟩
        · simp only at hm; omega
      | false =>
        have h2' := h2 hfb
        simp only at hm
        obtain ⟨i1, i2, i3⟩ := kids_le hf j (f (l, false)).2 (by omega)
        refine ⟨by omega, fun h => ?_, fun h => nomatch h⟩
        obtain ⟨i4, _⟩ := i2 h
        exact ⟨by omega, trivial⟩
theorem text_le (l : Bs) : (textB (l, false)).1.wt + 6 * (textB (l, false)).2.1.length ≤ 6 * l.length + 6 ∧ ((textB (l, false)).2.2 = false → (textB (l, false)).1.wt + 6 * (textB (l, false)).2.1.length ≤ 6 * l.length) := by
  obtain ⟨h1, h2⟩ := quoted_le (l, false)
  obtain ⟨h3, h4⟩ := takes_le 60 (quotedB (l, false)).2.1
  have ht : textK.size = 4 := rfl
  simp only at h1 h2
  unfold textB
  split
  · rename_i hc
    have h5 := h4 hc
    have h6 := marks_le _ (takesB 60 (quotedB (l, false)).2.1).2 (Nat.le_refl _)
    obtain ⟨h7, h8⟩ := want_le 62 ((marksGo (takesB 60 (quotedB (l, false)).2.1).2).2, (quotedB (l, false)).2.2)
    simp only at h7 h8
    rw [N.wt_eq]
    simp only [N.kind, N.text, N.marks, N.attrs, N.kids, attrs1, List.map_nil, List.sum_nil, N.wt.go, bytesOf_size, ht]
    refine ⟨by omega, fun h => ?_⟩
    obtain ⟨h9, h10⟩ := h8 h
    obtain ⟨_, h11⟩ := h2 h9
    omega
  · rw [N.wt_eq]
    simp only [N.kind, N.text, N.marks, N.attrs, N.kids, attrs1, names1, List.map_nil, List.sum_nil, N.wt.go, bytesOf_size, ht]
    refine ⟨by omega, fun h => ?_⟩
    obtain ⟨_, h11⟩ := h2 h
    omega
theorem attrsB_le (st : Rs) : attrs1 ((attrsB st).1.map pairB) + (attrsB st).2.1.length ≤ st.1.length ∧ ((attrsB st).2.2 = false → st.2 = false) := by
  obtain ⟨h3, h4⟩ := takes_le 40 st.1
  unfold attrsB
  split
  · rename_i hc
    have h5 := h4 hc
    have h6 := attrs_le _ ((takesB 40 st.1).2, st.2) (Nat.le_refl _)
    obtain ⟨h7, h8⟩ := want_le 41 (attrsGo ((takesB 40 st.1).2, st.2)).2
    simp only at h6 ⊢
    refine ⟨by omega, fun h => ?_⟩
    have h9 := (h8 h).1
    cases hb : st.2 with
    | false => rfl
    | true =>
      rw [attrsGo] at h9
      simp [hb] at h9
  · simp only [List.map_nil, attrs1, List.sum_nil]
    exact ⟨by omega, fun h => h⟩
theorem node_le : ∀ (k : Nat), NodeLe (nodeF k) k
  | 0 => fun l h => absurd h (Nat.not_lt_zero _)
  | k + 1 => fun l hl => by
    simp only [nodeF]
    cases hq : quoteNext l with
    | true => simp only [if_true]; exact text_le l
    | false =>
      simp only [Bool.false_eq_true, if_false]
      have h1 := name_le l
      obtain ⟨h2, h2'⟩ := attrsB_le ((nameB l).2, false)
      simp only at h2
      obtain ⟨h3, h4⟩ := want_le 91 (attrsB ((nameB l).2, false)).2
      generalize hst : wantB 91 (attrsB ((nameB l).2, false)).2 = st3 at *
      obtain ⟨st2, hst2⟩ : ∃ st2, (attrsB ((nameB l).2, false)).2 = st2 := ⟨_, rfl⟩
      rw [hst2] at h2 h3 h4
      rw [N.wt_eq]
      simp only [N.kind, N.text, N.marks, N.attrs, N.kids, names1, List.map_nil, List.sum_nil, bytesOf_size]
      have h0 : (⟨#[]⟩ : ByteArray).size = 0 := rfl
      obtain ⟨h7, h8⟩ := want_le 93 (kidsF (nodeF k) (st3.1.length + 1) st3).2
      cases hb : st3.2 with
      | true =>
        have hk : kidsF (nodeF k) (st3.1.length + 1) st3 = ([], st3) := by
          simp only [kidsF]
          rw [if_pos (by simp [stopK, hb])]
        rw [hk] at h7 h8 ⊢
        simp only [N.wt.go] at h7 h8 ⊢
        refine ⟨by omega, fun h => ?_⟩
        have := (h8 h).1
        rw [hb] at this
        cases this
      | false =>
        obtain ⟨h5, h6⟩ := h4 hb
        obtain ⟨i1, i2, i3⟩ := kids_le (node_le k) (st3.1.length + 1) st3 (by omega)
        refine ⟨by omega, fun h => ?_⟩
        obtain ⟨i4, _⟩ := i2 (h8 h).1
        omega
theorem node_wt (l : Bs) : (nodeF (l.length + 1) (l, false)).1.wt ≤ 6 * l.length + 6 := by
  have := (node_le (l.length + 1) l (by omega)).1
  omega
end Go.Proofs.D
/-
  NODES: what is written is read as it was.
-/
set_option linter.unusedVariables false
set_option linter.unusedSimpArgs false
set_option linter.unusedSimpArgs false
namespace Go.Proofs.D
open Go Go.Abs
theorem takes_hit (c : UInt8) (l : Bs) : takesB c (c :: l) = (true, l) := by simp [takesB]
theorem takes_miss {c : UInt8} {l : Bs} (h : Stop (· == c) l) : takesB c l = (false, l) := by
  cases l with
  | nil => rfl
  | cons x l =>
    have := h x rfl
    simp only [beq_eq_false_iff_ne] at this
    simp [takesB, this]
theorem want_hit (c : UInt8) (l : Bs) (b : Bool) : wantB c (c :: l, b) = (l, b) := by simp [wantB, takes_hit]
theorem name_app : ∀ (s r : Bs), (∀ c ∈ s, low8 c = true) → Stop low8 r → nameB (s ++ r) = (s, r)
  | [], [], _, _ => rfl
  | [], x :: r, _, hr => by
    have := hr x rfl
    simp [nameB, this]
  | x :: s, r, hs, hr => by
    have h1 := hs x (by simp)
    have ih := name_app s r (fun c hc => hs c (by simp [hc])) hr
    simp only [nameB, Prod.mk.injEq] at ih
    simp [nameB, h1, ih.1, ih.2]
theorem quotedGo_esc : ∀ (v r s : Bs), quotedGo (esc v ++ 34 :: r) s = some (s ++ v, r)
  | [], [], s => by simp [esc, quotedGo]
  | [], d :: r, s => by simp [esc, quotedGo]
  | c :: v, r, s => by
    have ih := fun s => quotedGo_esc v r s
    by_cases h : c = 92 ∨ c = 34
    · simp only [esc, if_pos h, List.cons_append]
      rw [quotedGo, if_neg (by decide), if_pos rfl, ih]
      simp
    · simp only [esc, if_neg h, List.cons_append]
      obtain ⟨d, l, hl⟩ : ∃ d l, esc v ++ 34 :: r = d :: l := by
        cases hev : esc v with
        | nil => exact ⟨34, r, rfl⟩
        | cons d l => exact ⟨d, _, rfl⟩
      rw [hl, quotedGo, if_neg (fun e => h (.inr e)), if_neg (fun e => h (.inl e)), ← hl, ih]
      simp
theorem quoted_app (v r : Bs) : quotedB (quoteB v ++ r, false) = (v, (r, false)) := by
  have h1 : wantB 34 (quoteB v ++ r, false) = (esc v ++ 34 :: r, false) := by
    simp only [quoteB, List.cons_append, List.append_assoc, List.nil_append]
    exact want_hit 34 _ _
  unfold quotedB
  rw [h1, quotedGo_esc]
  simp
theorem bytesOf_list (s : ByteArray) : bytesOf s.data.toList = s := bsExt (by simp [bytesOf])
theorem map_bytesOf (l : List ByteArray) : (l.map (·.data.toList)).map bytesOf = l := by
  rw [List.map_map]
  exact (List.map_congr_left (fun s _ => bytesOf_list s)).trans (List.map_id l)
theorem marks_app : ∀ (x : ByteArray) (l : List ByteArray) (r : Bs), isName x = true → (∀ s ∈ l, isName s = true) → marksGo (x.data.toList ++ sepTail 44 (l.map (·.data.toList)) ++ 62 :: r) = (x.data.toList :: l.map (·.data.toList), 62 :: r)
  | x, [], r, hx, hl => by
    have h1 : nameB (x.data.toList ++ 62 :: r) = (x.data.toList, 62 :: r) := name_app _ _ (name_low hx).2 (stop_cons (by decide))
    rw [marksGo]
    simp only [sepTail, List.map_nil, List.flatMap_nil, List.append_nil, h1]
    rw [takes_miss (stop_cons (by decide))]
    simp
  | x, y :: l, r, hx, hl => by
    have h1 : nameB (x.data.toList ++ 44 :: (y.data.toList ++ sepTail 44 (l.map (·.data.toList)) ++ 62 :: r)) = (x.data.toList, 44 :: (y.data.toList ++ sepTail 44 (l.map (·.data.toList)) ++ 62 :: r)) := name_app _ _ (name_low hx).2 (stop_cons (by decide))
    have ih := marks_app y l r (hl y (by simp)) (fun s hs => hl s (by simp [hs]))
    have e : x.data.toList ++ sepTail 44 ((y :: l).map (·.data.toList)) ++ 62 :: r = x.data.toList ++ 44 :: (y.data.toList ++ sepTail 44 (l.map (·.data.toList)) ++ 62 :: r) := by
      simp [sepTail]
    rw [e, marksGo]
    simp only [h1, takes_hit, dif_pos, ih]
    simp
def lists (p : ByteArray × ByteArray) : Bs × Bs := (p.1.data.toList, p.2.data.toList)
theorem attr_app (p : ByteArray × ByteArray) (r : Bs) (hp : isName p.1 = true) : attrB1 (attrB p ++ r) = (lists p, (r, false)) := by
  have e : attrB p ++ r = p.1.data.toList ++ 61 :: (quoteB p.2.data.toList ++ r) := by simp [attrB]
  have h1 : nameB (p.1.data.toList ++ 61 :: (quoteB p.2.data.toList ++ r)) = (p.1.data.toList, 61 :: (quoteB p.2.data.toList ++ r)) := name_app _ _ (name_low hp).2 (stop_cons (by decide))
  rw [e]
  simp only [attrB1, h1, want_hit, quoted_app, lists]
theorem attrs_app : ∀ (x : ByteArray × ByteArray) (l : List (ByteArray × ByteArray)) (r : Bs), isName x.1 = true → (∀ p ∈ l, isName p.1 = true) → attrsGo (attrB x ++ sepTail 32 (l.map attrB) ++ 41 :: r, false) = (lists x :: l.map lists, (41 :: r, false))
  | x, [], r, hx, hl => by
    rw [attrsGo]
    simp only [sepTail, List.map_nil, List.flatMap_nil, List.append_nil, attr_app x _ hx]
    rw [takes_miss (stop_cons (by decide))]
    simp
  | x, y :: l, r, hx, hl => by
    have ih := attrs_app y l r (hl y (by simp)) (fun s hs => hl s (by simp [hs]))
    have e : attrB x ++ sepTail 32 ((y :: l).map attrB) ++ 41 :: r = attrB x ++ 32 :: (attrB y ++ sepTail 32 (l.map attrB) ++ 41 :: r) := by simp [sepTail]
    rw [e, attrsGo]
    simp only [attr_app x _ hx, takes_hit, dif_pos, ih]
    simp
theorem pair_lists (l : List (ByteArray × ByteArray)) : (l.map lists).map pairB = l := by
  rw [List.map_map]
  refine (List.map_congr_left (fun p _ => ?_)).trans (List.map_id l)
  simp only [Function.comp, lists, pairB, bytesOf_list]
  rfl
theorem text_app (n : N) (r : Bs) (hn : n.form = true) (hk : n.kind = textK) (hr : Stop (· == 60) r) : textB (n.w ++ r, false) = (n, (r, false)) := by
  obtain ⟨p1, p2, p3⟩ := form_text hn hk
  rw [N.w_eq, if_pos hk, List.append_assoc]
  unfold textB
  simp only [quoted_app]
  by_cases hm : n.marks = []
  · have h1 : headT n.marks ++ r = r := by simp [headT, hm]
    rw [h1, takes_miss hr]
    simp only [Bool.false_eq_true, if_false, Prod.mk.injEq, and_true]
    exact N.ext hk.symm (bytesOf_list _) hm.symm p2.symm p3.symm
  · obtain ⟨x, l, hl⟩ := List.exists_cons_of_ne_nil hm
    have h1 : headT n.marks ++ r = 60 :: (x.data.toList ++ sepTail 44 (l.map (·.data.toList)) ++ 62 :: r) := by
      simp [headT, hm, hl, sepBy]
    rw [h1, takes_hit, marks_app x l r (p1 x (by rw [hl]; simp)) (fun s hs => p1 s (by rw [hl]; simp [hs]))]
    simp only [if_true, want_hit, Prod.mk.injEq, and_true]
    refine N.ext hk.symm (bytesOf_list _) ?_ p2.symm p3.symm
    have := map_bytesOf (x :: l)
    simp only [List.map_cons] at this
    simp only [N.marks, List.map_cons, this]
    exact hl.symm
theorem go_lens : ∀ l : List N, (∀ x ∈ l, x.form = true) → l.length ≤ (N.w.go l).length
  | [], _ => by simp
  | x :: l, h => by
    obtain ⟨c, t, h1, _⟩ := w_first (h x (by simp))
    have := go_lens l fun y hy => h y (by simp [hy])
    simp only [N.w.go, h1, List.length_append, List.length_cons]
    omega
theorem kids_app {f : Rs → N × Rs} {m : Nat} : ∀ (l : List N) (j : Nat) (r : Bs), (∀ x ∈ l, x.form = true) → l.length < j → (N.w.go l ++ 93 :: r).length < m → (∀ x ∈ l, ∀ r, Stop (· == 60) r → (x.w ++ r).length < m → f (x.w ++ r, false) = (x, (r, false))) → kidsF f j (N.w.go l ++ 93 :: r, false) = (l, (93 :: r, false))
  | [], j + 1, r, _, _, _, _ => by simp [kidsF, N.w.go, stopK]
  | x :: l, j + 1, r, hl, hj, hm, hf => by
    obtain ⟨c, t, h1, h2, _⟩ := w_first (hl x (by simp))
    have hst : Stop (· == 60) (N.w.go l ++ 93 :: r) := by
      cases l with
      | nil => exact stop_cons (by decide)
      | cons y m =>
        obtain ⟨c, t, h1, _, h3, _⟩ := w_first (hl y (by simp))
        simp only [N.w.go, h1, List.cons_append]
        exact stop_cons (by simpa using h3)
    have hlen : (N.w.go (x :: l) ++ 93 :: r).length = (x.w ++ (N.w.go l ++ 93 :: r)).length := by simp [N.w.go]
    have ih := kids_app l j r (fun y hy => hl y (by simp [hy])) (by simp at hj; omega) (by rw [hlen, List.length_append] at hm; omega) (fun y hy => hf y (by simp [hy]))
    have hs : stopK (N.w.go (x :: l) ++ 93 :: r, false) = false := by simp [stopK, N.w.go, h1, h2]
    have e : N.w.go (x :: l) ++ 93 :: r = x.w ++ (N.w.go l ++ 93 :: r) := by simp [N.w.go]
    rw [kidsF, hs, e, hf x (by simp) _ hst (by rw [← hlen]; exact hm)]
    simp only [Bool.false_eq_true, if_false, ih]
theorem node_app : ∀ (k : Nat) (n : N) (r : Bs), n.form = true → Stop (· == 60) r → (n.w ++ r).length < k → nodeF k (n.w ++ r, false) = (n, (r, false))
  | k + 1, n, r, hn, hr, hlt => by
    obtain ⟨c, t, h1, h2, h3, h4, h5⟩ := w_first hn
    by_cases hk : n.kind = textK
    · have hq : quoteNext (n.w ++ r) = true := by simp [quoteNext, h1, h4 hk]
      simp only [nodeF, hq, if_true]
      exact text_app n r hn hk hr
    · have hc : c ≠ 34 := fun e => by have := h5 hk; rw [e] at this; exact absurd this (by decide)
      have hq : quoteNext (n.w ++ r) = false := by simp [quoteNext, h1, hc]
      obtain ⟨p1, p2, p3, p4, p5⟩ := form_kind hn hk
      have hw : n.w ++ r = n.kind.data.toList ++ (headA n.attrs ++ 91 :: (N.w.go n.kids ++ 93 :: r)) := by
        rw [N.w_eq, if_neg hk]; simp
      have hnm : nameB (n.w ++ r) = (n.kind.data.toList, headA n.attrs ++ 91 :: (N.w.go n.kids ++ 93 :: r)) := by
        rw [hw]; exact name_app _ _ (name_low p1).2 (headA_low _ _)
      have hat : attrsB (headA n.attrs ++ 91 :: (N.w.go n.kids ++ 93 :: r), false) = (n.attrs.map lists, (91 :: (N.w.go n.kids ++ 93 :: r), false)) := by
        unfold attrsB
        by_cases ha : n.attrs = []
        · have : headA n.attrs = [] := by simp [headA, ha]
          simp only [this, List.nil_append]
          rw [takes_miss (stop_cons (by decide))]
          simp [ha]
        · obtain ⟨x, l, hl⟩ := List.exists_cons_of_ne_nil ha
          have : headA n.attrs ++ 91 :: (N.w.go n.kids ++ 93 :: r) = 40 :: (attrB x ++ sepTail 32 (l.map attrB) ++ 41 :: (91 :: (N.w.go n.kids ++ 93 :: r))) := by
            simp [headA, ha, hl, sepBy]
          rw [this]
          simp only [takes_hit, attrs_app x l _ (p4 x (by rw [hl]; simp)) (fun s hs => p4 s (by rw [hl]; simp [hs])), if_true, want_hit]
          rw [hl, List.map_cons]
      have hlen := congrArg List.length hw
      have hkl : n.kind.data.toList ≠ [] := (name_low p1).1
      have hkl' : 0 < n.kind.data.toList.length := List.length_pos_iff.2 hkl
      have hkids := kids_app (f := nodeF k) n.kids ((N.w.go n.kids ++ 93 :: r).length + 1) r p5 (by have := go_lens n.kids p5; simp; omega) (m := k) (by rw [hlen] at hlt; simp only [List.length_append, List.length_cons] at hlt ⊢; omega) (fun x hx r' hr' hl' => node_app k x r' (p5 x hx) hr' hl')
      · simp only [nodeF, hq, Bool.false_eq_true, if_false, hnm, hat, want_hit, hkids, Prod.mk.injEq, and_true]
        refine N.ext (bytesOf_list _) p2.symm p3.symm (pair_lists _) rfl
end Go.Proofs.D
