/-
  COMPLEMENTS, as they are read: what is written is read as it was.
-/
import Derived.Test.YtonomogpephfkaaDoorQ4
import Derived.Test.YtonomogpephfkaaDoorK11
set_option linter.unusedVariables false
set_option linter.unusedSimpArgs false
set_option linter.unusedSimpArgs false
namespace Go.Proofs.D
open Go Go.Abs
def n0 : N := .mk ⟨#[]⟩ ⟨#[]⟩ [] [] []
def readN (s : Bs) : N × Rs := nodeF (s.length + 1) (s, false)
def badN (s : Bs) : Bool := (readN s).2.2 || !decide ((readN s).2.1 = []) || !decide ((readN s).1.w = s) || decide ((readN s).1.check = 2)
def parseN (s : Bs) : N × Int := if badN s = true then (n0, 2) else if (readN s).1.check = 0 then ((readN s).1, 0) else (n0, (readN s).1.check)
def parseAllB (s : Bs) : List N × Int := ((parseN (120 :: 91 :: (s ++ [93]))).1.kids, (parseN (120 :: 91 :: (s ++ [93]))).2)
def e0 : Ent := ⟨false, ⟨#[]⟩, []⟩
def headIs (c : UInt8) (l : Bs) : Bool := match l with | [] => false | x :: _ => decide (x = c)
theorem headIs_takes (c : UInt8) (l : Bs) : (takesB c l).1 = headIs c l := by
  cases l with
  | nil => rfl
  | cons x l => simp only [takesB, headIs]; split <;> simp [*]
def innerB (t : Bs) : Bs := (t.take (endB t - 1)).drop 1
/-- What a text says behind the value's. -/
def restB (v : ByteArray) (t : Bs) : Ent × Bs × Bool :=
  if headIs 91 t = true then (if endB t = 0 then (e0, [], false) else (⟨true, v, (parseAllB (innerB t)).1⟩, t.drop (endB t), decide ((parseAllB (innerB t)).2 = 0) && decide (0 < (parseAllB (innerB t)).1.length)))
  else (⟨true, v, []⟩, t, true)
def entryB (t : Bs) : Ent × Bs × Bool :=
  if headIs 45 t = true then (e0, t.drop 1, true)
  else if headIs 61 t = true ∧ endB (t.drop 1) ≠ 0 ∧ headIs 34 (t.drop 1) = true then restB (bytesOf (unquoteB ((t.drop 1).take (endB (t.drop 1))))) ((t.drop 1).drop (endB (t.drop 1)))
  else (e0, [], false)
def trimB (c : UInt8) (t : Bs) : Bs := if headIs c t = true then t.drop 1 else t
def pLoop : Nat → Cm → List Ent → Bs → Option Cm
  | 0, c, s, t => if t = [] then some c else none
  | k + 1, c, s, t => if t = [] then some c else if headIs 10 t = true then pLoop k (c ++ [s]) [] (t.drop 1) else
      if (entryB (trimB 32 t)).2.2 = true then pLoop k c (s ++ [(entryB (trimB 32 t)).1]) (entryB (trimB 32 t)).2.1 else none
def parseC (t : Bs) : Cm × Int := match pLoop t.length [] [] t with
  | none => ([], 2)
  | some c => if okC c = true ∧ compB c = t then (c, 0) else ([], 2)
/-! ### how heavy -/
theorem endGo_ge : ∀ (l : Bs) (o : Int) (q sk : Bool) (i : Nat), endGo o q sk i l = 0 ∨ i + 1 ≤ endGo o q sk i l
  | [], _, _, sk, i => by cases sk <;> simp [endGo]
  | c :: l, o, q, true, i => by
    have := endGo_ge l o q false (i + 1)
    simp only [endGo]; omega
  | c :: l, o, q, false, i => by
    simp only [endGo]
    split
    · have := endGo_ge l o q true (i + 1); omega
    · split
      · have := endGo_ge l o q false (i + 1); omega
      · rename_i o' q' _
        split
        · right; omega
        · have := endGo_ge l o' q' false (i + 1); omega
theorem end_two {c : UInt8} {t : Bs} (hc : c = 91 ∨ c = 34) (h : headIs c t = true) (h0 : endB t ≠ 0) : 2 ≤ endB t ∧ endB t ≤ t.length := by
  cases t with
  | nil => simp [headIs] at h
  | cons x l =>
    simp only [headIs, decide_eq_true_eq] at h
    subst h
    have hle := endGo_le (x :: l) 0 false false 0
    refine ⟨?_, by unfold endB; omega⟩
    unfold endB at h0 ⊢
    rcases hc with rfl | rfl
    · have e : endGo 0 false false 0 (91 :: l) = endGo 1 false false 1 l := by simp [endGo, stepS]
      rw [e] at h0 ⊢
      rcases endGo_ge l 1 false false 1 with h | h <;> omega
    · have e : endGo 0 false false 0 (34 :: l) = endGo 0 true false 1 l := by simp [endGo, stepS]
      rw [e] at h0 ⊢
      rcases endGo_ge l 0 true false 1 with h | h <;> omega
theorem n0_wt : n0.wt = 1 := by
  rw [N.wt_eq]
  have h0 : (⟨#[]⟩ : ByteArray).size = 0 := rfl
  simp [n0, N.kind, N.text, N.marks, N.attrs, N.kids, names1, attrs1, N.wt.go, h0]
theorem parseN_wt (s : Bs) : (parseN s).1.wt ≤ 6 * s.length + 6 := by
  have := node_wt s
  have h0 := n0_wt
  unfold parseN
  split
  · simp only; omega
  · split
    · exact this
    · simp only; omega
theorem parseAll_wt (s : Bs) : N.wt.go (parseAllB s).1 ≤ 6 * s.length + 23 := by
  have h := parseN_wt (120 :: 91 :: (s ++ [93]))
  rw [N.wt_eq] at h
  simp only [List.length_cons, List.length_append, List.length_nil] at h
  simp only [parseAllB]
  omega
theorem unquote_len (s : Bs) : (unquoteB s).length ≤ s.length - 1 := by
  have := (unqGo_len (s.drop 1)).1
  simp only [List.length_drop] at this
  unfold unquoteB
  omega
theorem entry_wt (t : Bs) (h : (entryB t).2.2 = true) : (entryB t).1.wt + 7 * (entryB t).2.1.length ≤ 7 * t.length ∧ (entryB t).2.1.length < t.length := by
  have w0 : e0.wt = 1 := by
    have h0 : (⟨#[]⟩ : ByteArray).size = 0 := rfl
    simp [Ent.wt, e0, N.wt.go, h0]
  unfold entryB at h ⊢
  split
  · rename_i hc
    have ht : 0 < t.length := by cases t with | nil => simp [headIs] at hc | cons x l => simp
    simp only [List.length_drop]
    omega
  · rename_i hc
    rw [if_neg hc] at h
    split
    · rename_i hc2
      rw [if_pos hc2] at h
      obtain ⟨c1, c2, c3⟩ := hc2
      have ht : 0 < t.length := by cases t with | nil => simp [headIs] at c1 | cons x l => simp
      obtain ⟨g1, g2⟩ := end_two (.inr rfl) c3 c2
      have hv := unquote_len ((t.drop 1).take (endB (t.drop 1)))
      simp only [List.length_drop, List.length_take] at hv g2
      generalize hto : endB (t.drop 1) = w at *
      unfold restB at h ⊢
      split
      · rename_i hb
        rw [if_pos hb] at h
        split
        · rename_i h0
          rw [if_pos h0] at h
          cases h
        · rename_i h0
          obtain ⟨k1, k2⟩ := end_two (.inl rfl) hb h0
          have hp := parseAll_wt (innerB ((t.drop 1).drop w))
          have hi : (innerB ((t.drop 1).drop w)).length = endB ((t.drop 1).drop w) - 2 := by
            simp only [innerB, List.length_drop, List.length_take] at k2 ⊢
            omega
          rw [hi] at hp
          simp only [List.length_drop] at k2
          simp only [Ent.wt, bytesOf_size, List.length_drop]
          omega
      · simp only [Ent.wt, bytesOf_size, N.wt.go, List.length_drop]
        omega
    · rename_i hc2
      rw [if_neg hc2] at h
      cases h
theorem trim_le (c : UInt8) (t : Bs) : (trimB c t).length ≤ t.length := by
  unfold trimB
  split
  · simp
  · exact Nat.le_refl _
theorem pLoop_wt : ∀ (k : Nat) (c : Cm) (s : List Ent) (t : Bs) (d : Cm), pLoop k c s t = some d → compWt d ≤ compWt c + (s.map Ent.wt).sum + 7 * t.length
  | 0, c, s, t, d, h => by
    simp only [pLoop] at h
    split at h
    · cases h; omega
    · cases h
  | k + 1, c, s, t, d, h => by
    simp only [pLoop] at h
    split at h
    · cases h; omega
    · split at h
      · rename_i ht hc
        have ht' : 0 < t.length := List.length_pos_iff.2 ht
        have := pLoop_wt k _ _ _ d h
        rw [compWt_append] at this
        simp only [compWt, List.map_cons, List.map_nil, List.sum_cons, List.sum_nil, slotWt, List.length_drop] at this ⊢
        omega
      · split at h
        · rename_i hok
          have h1 := entry_wt _ hok
          have h2 := trim_le 32 t
          have := pLoop_wt k _ _ _ d h
          simp only [List.map_append, List.map_cons, List.map_nil, List.sum_append, List.sum_cons, List.sum_nil] at this
          omega
        · cases h
theorem parseC_wt (t : Bs) : compWt (parseC t).1 ≤ 7 * t.length := by
  unfold parseC
  split
  · simp [compWt]
  · rename_i c hc
    have := pLoop_wt _ _ _ _ _ hc
    split
    · simpa [compWt] using this
    · simp [compWt]
/-! ### what is written is read -/
theorem headIs_stop {c : UInt8} {l : Bs} (h : Stop (· == c) l) : headIs c l = false := by
  rw [← headIs_takes, takes_miss h]
theorem parseAll_app (l : List N) (h : (xOf l).check = 0) : parseAllB (N.w.go l) = (l, 0) := by
  have hf := check_form h
  have hr := node_app (((xOf l).w ++ []).length + 1) (xOf l) [] hf stop_nil (Nat.lt_succ_self _)
  rw [List.append_nil, x_w] at hr
  have hr' : readN (120 :: 91 :: (N.w.go l ++ [93])) = (xOf l, ([], false)) := hr
  have hb : badN (120 :: 91 :: (N.w.go l ++ [93])) = false := by
    simp only [badN, hr', x_w, h]
    simp
  simp only [parseAllB, parseN, hb, Bool.false_eq_true, if_false, hr', h, if_true]
  rfl
theorem entry_app (e : Ent) (r : Bs) (he : e.ok = true) (hr : Stop (· == 91) r) : entryB (e.w ++ r) = (e, r, true) := by
  unfold Ent.ok at he
  cases hh : e.has with
  | false =>
    rw [hh] at he
    simp [Ent.none] at he
    have hw : e.w = [45] := by simp [Ent.w, hh]
    have : e = e0 := Ent.ext' hh he.1 he.2
    rw [hw, this]
    simp [entryB, headIs]
  | true =>
    rw [hh] at he
    simp only [if_true, Bool.and_eq_true, decide_eq_true_eq] at he
    have hf := x_form (check_form he.2)
    have hg := go_nil hf
    have hw : e.w ++ r = 61 :: (quoteB e.value.data.toList ++ ((if N.w.go e.rest = [] then [] else 91 :: (N.w.go e.rest ++ [93])) ++ r)) := by
      simp [Ent.w, hh]
    generalize hX : (if N.w.go e.rest = [] then [] else 91 :: (N.w.go e.rest ++ [93])) ++ r = X at hw
    have h1 : headIs 45 (e.w ++ r) = false := by rw [hw]; simp [headIs]
    have h2 : headIs 61 (e.w ++ r) = true := by rw [hw]; simp [headIs]
    have h3 : (e.w ++ r).drop 1 = quoteB e.value.data.toList ++ X := by rw [hw]; rfl
    have h4 : headIs 34 (quoteB e.value.data.toList ++ X) = true := by simp [quoteB, headIs]
    have h5 : endB (quoteB e.value.data.toList ++ X) = (quoteB e.value.data.toList).length := endB_quote _ _
    have h6 : (quoteB e.value.data.toList).length ≠ 0 := by simp [quoteB]
    unfold entryB
    rw [h1, h2, h3, h4, h5, if_neg (by simp), if_pos ⟨rfl, h6, rfl⟩, List.take_left, List.drop_left, unquote_quote, bytesOf_list]
    unfold restB
    by_cases h0 : e.rest = []
    · have : X = r := by rw [← hX, if_pos (hg.2 h0)]; rfl
      rw [this, headIs_stop hr]
      simp only [Bool.false_eq_true, if_false, Prod.mk.injEq, and_true]
      exact Ent.ext' hh.symm rfl h0.symm
    · have hX2 : X = 91 :: (N.w.go e.rest ++ 93 :: r) := by rw [← hX, if_neg (fun h => h0 (hg.1 h))]; simp
      have h7 := endB_kids e.rest r hf
      have h8 : headIs 91 X = true := by rw [hX2]; simp [headIs]
      have h9 : innerB X = N.w.go e.rest := by
        unfold innerB
        rw [hX2, h7, show (N.w.go e.rest).length + 2 - 1 = (N.w.go e.rest).length + 1 by omega, List.take_succ_cons, List.drop_succ_cons, List.drop_zero, List.take_left]
      have h10 : X.drop (endB X) = r := by
        rw [hX2, h7]
        have e1 : 91 :: (N.w.go e.rest ++ 93 :: r) = (91 :: (N.w.go e.rest ++ [93])) ++ r := by simp
        have e2 : (N.w.go e.rest).length + 2 = (91 :: (N.w.go e.rest ++ [93])).length := by simp
        rw [e1, e2, List.drop_left]
      have h11 : endB X ≠ 0 := by rw [hX2, h7]; omega
      rw [h8, if_pos rfl, if_neg h11, h9, h10, parseAll_app _ he.2]
      have hl : 0 < e.rest.length := List.length_pos_iff.2 h0
      simp only [hl, decide_true, Bool.and_self, Prod.mk.injEq, and_true]
      exact Ent.ext' hh.symm rfl rfl
theorem line_tail : ∀ (l : List Ent) (k : Nat) (c : Cm) (s : List Ent) (r : Bs), (∀ e ∈ l, Ent.ok e = true) → pLoop (k + l.length + 1) c s (sepTail 32 (l.map Ent.w) ++ 10 :: r) = pLoop k (c ++ [s ++ l]) [] r
  | [], k, c, s, r, _ => by
    simp [sepTail, pLoop, headIs]
  | e :: l, k, c, s, r, h => by
    have ih := line_tail l k c (s ++ [e]) r (fun x hx => h x (by simp [hx]))
    have e1 : sepTail 32 ((e :: l).map Ent.w) ++ 10 :: r = 32 :: (e.w ++ (sepTail 32 (l.map Ent.w) ++ 10 :: r)) := by simp [sepTail]
    have hst : Stop (· == 91) (sepTail 32 (l.map Ent.w) ++ 10 :: r) := by
      cases l with
      | nil => exact stop_cons (by decide)
      | cons x l => exact stop_cons (by decide)
    have h1 := entry_app e _ (h e (by simp)) hst
    rw [e1, show k + (e :: l).length + 1 = (k + l.length + 1) + 1 by simp; omega, pLoop]
    have h2 : trimB 32 (32 :: (e.w ++ (sepTail 32 (l.map Ent.w) ++ 10 :: r))) = e.w ++ (sepTail 32 (l.map Ent.w) ++ 10 :: r) := by simp [trimB, headIs]
    have h3 : headIs 10 (32 :: (e.w ++ (sepTail 32 (l.map Ent.w) ++ 10 :: r))) = false := by simp [headIs]
    rw [h2, h3, h1, if_neg (by simp), if_neg (by simp), if_pos rfl]
    simp only
    rw [ih]
    simp
theorem line_app (l : List Ent) (k : Nat) (c : Cm) (r : Bs) (h : ∀ e ∈ l, Ent.ok e = true) : pLoop (k + l.length + 1) c [] (lineB l ++ r) = pLoop k (c ++ [l]) [] r := by
  cases l with
  | nil => simp [lineB, sepBy, pLoop, headIs]
  | cons e l =>
    obtain ⟨x, t, h1, h2⟩ := ent_first e
    have hx : x = 61 ∨ x = 45 := by
      unfold Ent.w at h1
      split at h1 <;> (simp at h1; simp [h1])
    have hst : Stop (· == 91) (sepTail 32 (l.map Ent.w) ++ 10 :: r) := by
      cases l with
      | nil => exact stop_cons (by decide)
      | cons x l => exact stop_cons (by decide)
    have h3 := entry_app e _ (h e (by simp)) hst
    have e1 : lineB (e :: l) ++ r = e.w ++ (sepTail 32 (l.map Ent.w) ++ 10 :: r) := by simp [lineB, sepBy]
    have h4 : headIs 10 (e.w ++ (sepTail 32 (l.map Ent.w) ++ 10 :: r)) = false := by simp [h1, headIs, h2]
    have h5 : trimB 32 (e.w ++ (sepTail 32 (l.map Ent.w) ++ 10 :: r)) = e.w ++ (sepTail 32 (l.map Ent.w) ++ 10 :: r) := by
      have : ¬ x = 32 := by rcases hx with rfl | rfl <;> decide
      simp [trimB, h1, headIs, this]
    have h6 : ¬ e.w ++ (sepTail 32 (l.map Ent.w) ++ 10 :: r) = [] := by simp [h1]
    rw [e1, show k + (e :: l).length + 1 = (k + l.length + 1) + 1 by simp; omega, pLoop, h4, h5, h3, if_neg h6, if_neg (by simp), if_pos rfl]
    simp only [List.nil_append]
    have := line_tail l k c [e] r (fun x hx => h x (by simp [hx]))
    rw [this]
    rfl
def stepsC (c : Cm) : Nat := (c.map fun l => l.length + 1).sum
theorem comp_app : ∀ (d : Cm) (k : Nat) (c : Cm), okC d = true → pLoop (k + stepsC d) c [] (compB d) = some (c ++ d)
  | [], k, c, _ => by
    cases k <;> simp [stepsC, compB, pLoop]
  | l :: d, k, c, h => by
    simp only [okC, List.all_cons, Bool.and_eq_true, List.all_eq_true] at h
    have ih := comp_app d k (c ++ [l]) (by simp only [okC, List.all_eq_true]; exact h.2)
    have e1 : k + stepsC (l :: d) = (k + stepsC d) + l.length + 1 := by simp [stepsC]; omega
    rw [e1, compB, line_app l _ c _ h.1, ih]
    simp
theorem steps_le : ∀ c : Cm, stepsC c ≤ (compB c).length
  | [] => by simp [stepsC]
  | l :: c => by
    have ih := steps_le c
    have hl : l.length + 1 ≤ (lineB l).length := by
      simp only [lineB, List.length_append, List.length_cons, List.length_nil]
      have ht : ∀ l : List Ent, l.length ≤ (sepTail 32 (l.map Ent.w)).length := by
        intro l
        induction l with
        | nil => simp
        | cons e l ih => simp [sepTail] at ih ⊢; omega
      cases l with
      | nil => simp
      | cons e l =>
        obtain ⟨x, t, h1, _⟩ := ent_first e
        have := ht l
        simp only [List.map_cons, sepBy, List.length_append, List.length_cons, h1]
        omega
    simp only [stepsC, List.map_cons, List.sum_cons, compB, List.length_append] at ih ⊢
    omega
/-- What is written is read as it was. -/
theorem parse_print (c : Cm) (h : okC c = true) : parseC (compB c) = (c, 0) := by
  have h1 := comp_app c ((compB c).length - stepsC c) [] h
  rw [Nat.sub_add_cancel (steps_le c), List.nil_append] at h1
  unfold parseC
  rw [h1]
  simp [h]
end Go.Proofs.D
