/-
  COMPLEMENTS, as they are read: where a quoted text, or a bracket, ends.
-/
import Derived.Test.YtonomogpephfkaaDoorQ3
set_option linter.unusedVariables false
set_option linter.unusedSimpArgs false
set_option linter.unusedSimpArgs false
namespace Go.Proofs.D
open Go Go.Abs
/-- One sign of those that are not passed over: how many brackets are open, whether within a text; none: go on at once. -/
def stepS (o : Int) (q : Bool) (c : UInt8) : Option (Int × Bool) :=
  if c = 34 then some (o, !q) else if q = true then none else if c = 91 then some (o + 1, q) else if c = 93 then some (o - 1, q) else some (o, q)
def endGo : Int → Bool → Bool → Nat → Bs → Nat
  | _, _, _, _, [] => 0
  | o, q, true, i, _ :: l => endGo o q false (i + 1) l
  | o, q, false, i, c :: l => if q = true ∧ c = 92 then endGo o q true (i + 1) l else match stepS o q c with
    | none => endGo o q false (i + 1) l
    | some (o', q') => if o' = 0 ∧ q' = false then i + 1 else endGo o' q' false (i + 1) l
def endB (l : Bs) : Nat := endGo 0 false false 0 l
theorem endGo_le : ∀ (l : Bs) (o : Int) (q sk : Bool) (i : Nat), endGo o q sk i l ≤ i + l.length
  | [], _, _, sk, i => by cases sk <;> simp [endGo]
  | c :: l, o, q, true, i => by
    have := endGo_le l o q false (i + 1)
    simp only [endGo, List.length_cons]; omega
  | c :: l, o, q, false, i => by
    simp only [endGo, List.length_cons]
    split
    · have := endGo_le l o q true (i + 1); omega
    · split
      · have := endGo_le l o q false (i + 1); omega
      · rename_i o' q' _
        split
        · omega
        · have := endGo_le l o' q' false (i + 1); omega
/-- Within a text, at brackets that are open: it goes on behind the text. -/
theorem end_esc : ∀ (v r : Bs) (o : Int) (i : Nat), endGo o true false i (esc v ++ 34 :: r) = if o = 0 then i + (esc v).length + 1 else endGo o false false (i + (esc v).length + 1) r
  | [], r, o, i => by
    simp only [esc, List.nil_append, endGo, List.length_nil, Nat.add_zero]
    simp [stepS]
  | c :: v, r, o, i => by
    by_cases h : c = 92 ∨ c = 34
    · simp only [esc, if_pos h, List.cons_append, endGo, and_self, if_true, end_esc v r o (i + 1 + 1), List.length_cons]
      rw [show i + 1 + 1 + (esc v).length = i + ((esc v).length + 1 + 1) by omega]
    · have h1 : ¬ c = 92 := fun e => h (.inl e)
      have h2 : ¬ c = 34 := fun e => h (.inr e)
      have he : esc (c :: v) = c :: esc v := by simp only [esc, if_neg h]
      rw [he]
      simp only [List.cons_append, endGo, h1, and_false, if_false, stepS, h2, if_true, end_esc v r o (i + 1), List.length_cons]
      rw [show i + 1 + (esc v).length = i + ((esc v).length + 1) by omega]
theorem end_quote (v r : Bs) (o : Int) (i : Nat) : endGo o false false i (quoteB v ++ r) = if o = 0 then i + (quoteB v).length else endGo o false false (i + (quoteB v).length) r := by
  have h := end_esc v r o (i + 1)
  simp only [quoteB, List.cons_append, List.append_assoc, List.nil_append, endGo, Bool.false_eq_true, false_and, if_false, stepS, if_true, Bool.not_false, and_false]
  rw [h]
  have e : (34 :: (esc v ++ [34])).length = (esc v).length + 2 := by simp
  rw [e, show i + ((esc v).length + 2) = i + 1 + (esc v).length + 1 by omega]
  rw [if_neg (by simp)]
/-- Signs that say nothing of texts or brackets. -/
def plainC (c : UInt8) : Bool := !(decide (c = 34)) && !(decide (c = 91)) && !(decide (c = 93))
theorem end_plain : ∀ (s r : Bs) (o : Int) (i : Nat), (∀ c ∈ s, plainC c = true) → o ≠ 0 → endGo o false false i (s ++ r) = endGo o false false (i + s.length) r
  | [], r, o, i, _, _ => by simp
  | c :: s, r, o, i, h, ho => by
    have hc := h c (by simp)
    simp only [plainC, Bool.and_eq_true, Bool.not_eq_true', decide_eq_false_iff_not] at hc
    have ih := end_plain s r o (i + 1) (fun d hd => h d (by simp [hd])) ho
    simp only [List.cons_append, endGo, Bool.false_eq_true, false_and, if_false, stepS, hc.1.1, hc.1.2, hc.2, ho, ih, List.length_cons]
    congr 1; omega
theorem low_plain {c : UInt8} (h : low8 c = true) : plainC c = true := by
  simp only [low8, Bool.and_eq_true, decide_eq_true_eq] at h
  simp only [plainC, Bool.and_eq_true, Bool.not_eq_true', decide_eq_false_iff_not]
  refine ⟨⟨?_, ?_⟩, ?_⟩ <;> (rintro rfl; exact absurd h (by decide))
theorem name_plain {s : ByteArray} (h : isName s = true) : ∀ c ∈ s.data.toList, plainC c = true := fun c hc => low_plain ((name_low h).2 c hc)
theorem headT_plain {m : List ByteArray} (h : ∀ s ∈ m, isName s = true) : ∀ c ∈ headT m, plainC c = true := by
  have ht : ∀ (l : List ByteArray), (∀ s ∈ l, isName s = true) → ∀ c ∈ sepTail 44 (l.map (·.data.toList)), plainC c = true := by
    intro l hl c hc
    simp only [sepTail, List.mem_flatMap, List.mem_map] at hc
    obtain ⟨x, ⟨s, hs, rfl⟩, hc⟩ := hc
    rcases List.mem_cons.1 hc with rfl | hc
    · decide
    · exact name_plain (hl s hs) c hc
  intro c hc
  unfold headT at hc
  split at hc
  · cases hc
  · cases m with
    | nil => simp [sepBy] at hc; rcases hc with rfl | rfl <;> decide
    | cons x l =>
      simp only [List.map_cons, sepBy, List.mem_cons, List.mem_append, List.mem_singleton] at hc
      rcases hc with rfl | (hc | hc) | hc
      · decide
      · exact name_plain (h x (by simp)) c hc
      · exact ht l (fun s hs => h s (by simp [hs])) c hc
      · rcases hc with rfl | hc
        · decide
        · cases hc
theorem end_attrT : ∀ (l : List (ByteArray × ByteArray)) (r : Bs) (o : Int) (i : Nat), (∀ p ∈ l, isName p.1 = true) → o ≠ 0 → endGo o false false i (sepTail 32 (l.map attrB) ++ r) = endGo o false false (i + (sepTail 32 (l.map attrB)).length) r
  | [], r, o, i, _, _ => by simp [sepTail]
  | p :: l, r, o, i, h, ho => by
    have ih := fun i => end_attrT l r o i (fun q hq => h q (by simp [hq])) ho
    have e : sepTail 32 ((p :: l).map attrB) ++ r = (32 :: p.1.data.toList ++ [61]) ++ (quoteB p.2.data.toList ++ (sepTail 32 (l.map attrB) ++ r)) := by simp [sepTail, attrB]
    have e2 : (sepTail 32 ((p :: l).map attrB)).length = (32 :: p.1.data.toList ++ [61]).length + ((quoteB p.2.data.toList).length + (sepTail 32 (l.map attrB)).length) := by simp [sepTail, attrB]; omega
    rw [e, end_plain _ _ o i (fun c hc => by
      simp only [List.cons_append, List.mem_cons, List.mem_append, List.mem_singleton] at hc
      rcases hc with rfl | hc | hc
      · decide
      · exact name_plain (h p (by simp)) c hc
      · rcases hc with rfl | hc
        · decide
        · cases hc) ho, end_quote, if_neg ho, ih, e2]
    congr 1; omega
theorem end_headA (a : List (ByteArray × ByteArray)) (r : Bs) (o : Int) (i : Nat) (h : ∀ p ∈ a, isName p.1 = true) (ho : o ≠ 0) : endGo o false false i (headA a ++ r) = endGo o false false (i + (headA a).length) r := by
  unfold headA
  split
  · simp
  · rename_i ha
    obtain ⟨p, l, rfl⟩ := List.exists_cons_of_ne_nil ha
    have hq := end_attrT l (41 :: r) o
    have e : 40 :: (sepBy 32 ((p :: l).map attrB) ++ [41]) ++ r = (40 :: p.1.data.toList ++ [61]) ++ (quoteB p.2.data.toList ++ (sepTail 32 (l.map attrB) ++ ([41] ++ r))) := by simp [sepBy, attrB]
    have e2 : (40 :: (sepBy 32 ((p :: l).map attrB) ++ [41])).length = (40 :: p.1.data.toList ++ [61]).length + ((quoteB p.2.data.toList).length + (sepTail 32 (l.map attrB)).length) + 1 := by simp [sepBy, attrB]; omega
    rw [e, end_plain _ _ o i (fun c hc => by
      simp only [List.cons_append, List.mem_cons, List.mem_append, List.mem_singleton] at hc
      rcases hc with rfl | hc | hc
      · decide
      · exact name_plain (h p (by simp)) c hc
      · rcases hc with rfl | hc
        · decide
        · cases hc) ho, end_quote, if_neg ho, end_attrT l ([41] ++ r) o _ (fun q hq => h q (by simp [hq])) ho, end_plain [41] r o _ (by decide) ho, e2]
    congr 1; simp; omega
theorem end_node (n : N) (r : Bs) (o : Int) (i : Nat) (hn : n.form = true) (ho : 0 < o) : endGo o false false i (n.w ++ r) = endGo o false false (i + n.w.length) r := by
  have ho' : o ≠ 0 := by omega
  by_cases hk : n.kind = textK
  · obtain ⟨p1, _, _⟩ := form_text hn hk
    rw [N.w_eq, if_pos hk, List.append_assoc, end_quote, if_neg ho', end_plain _ _ o _ (headT_plain p1) ho', List.length_append]
    congr 1; omega
  · obtain ⟨p1, p2, p3, p4, p5⟩ := form_kind hn hk
    have hgo : ∀ (l : List N), (∀ x ∈ l, x.form = true ∧ ∀ r (o : Int) i, 0 < o → endGo o false false i (x.w ++ r) = endGo o false false (i + x.w.length) r) → ∀ (r : Bs) (o : Int) (i : Nat), 0 < o → endGo o false false i (N.w.go l ++ r) = endGo o false false (i + (N.w.go l).length) r := by
      intro l
      induction l with
      | nil => intro _ r o i _; simp [N.w.go]
      | cons x l ih =>
        intro hl r o i ho
        simp only [N.w.go, List.append_assoc]
        rw [(hl x (by simp)).2 _ o i ho, ih (fun y hy => hl y (by simp [hy])) r o _ ho, List.length_append]
        congr 1; omega
    have e : n.w ++ r = n.kind.data.toList ++ (headA n.attrs ++ (91 :: (N.w.go n.kids ++ (93 :: r)))) := by rw [N.w_eq, if_neg hk]; simp
    have e2 : n.w.length = n.kind.data.toList.length + (headA n.attrs).length + 1 + (N.w.go n.kids).length + 1 := by rw [N.w_eq, if_neg hk]; simp; omega
    rw [e, end_plain _ _ o i (name_plain p1) ho', end_headA _ _ o _ p4 ho']
    have h91 : ∀ (o : Int) (i : Nat) (l : Bs), 0 < o → endGo o false false i (91 :: l) = endGo (o + 1) false false (i + 1) l := fun o i l ho => by
      have : ¬ o + 1 = 0 := by omega
      simp [endGo, stepS, this]
    have h93 : ∀ (o : Int) (i : Nat) (l : Bs), 1 < o → endGo o false false i (93 :: l) = endGo (o - 1) false false (i + 1) l := fun o i l ho => by
      have : ¬ o - 1 = 0 := by omega
      simp [endGo, stepS, this]
    rw [h91 o _ _ ho, hgo n.kids (fun x hx => ⟨p5 x hx, fun r o i ho => end_node x r o i (p5 x hx) ho⟩) _ (o + 1) _ (by omega), h93 (o + 1) _ _ (by omega), e2]
    rw [show o + 1 - 1 = o by omega]
    congr 1; omega
termination_by SizeOf.sizeOf n
decreasing_by exact N.kids_lt hx
theorem end_go : ∀ (l : List N) (r : Bs) (o : Int) (i : Nat), (∀ x ∈ l, x.form = true) → 0 < o → endGo o false false i (N.w.go l ++ r) = endGo o false false (i + (N.w.go l).length) r
  | [], r, o, i, _, _ => by simp [N.w.go]
  | x :: l, r, o, i, hl, ho => by
    simp only [N.w.go, List.append_assoc]
    rw [end_node x _ o i (hl x (by simp)) ho, end_go l r o _ (fun y hy => hl y (by simp [hy])) ho, List.length_append]
    congr 1; omega
theorem endB_quote (v r : Bs) : endB (quoteB v ++ r) = (quoteB v).length := by
  unfold endB
  rw [end_quote, if_pos rfl]; omega
theorem endB_kids (l : List N) (r : Bs) (hl : ∀ x ∈ l, x.form = true) : endB (91 :: (N.w.go l ++ 93 :: r)) = (N.w.go l).length + 2 := by
  unfold endB
  have h1 : endGo 0 false false 0 (91 :: (N.w.go l ++ 93 :: r)) = endGo 1 false false 1 (N.w.go l ++ 93 :: r) := by simp [endGo, stepS]
  rw [h1, end_go l _ 1 1 hl (by omega)]
  simp [endGo, stepS]
  omega
/-- What a quoted text says. -/
def unqGo : Bs → Bs
  | [] => []
  | [_] => []
  | c :: d :: l => if c = 92 then d :: unqGo l else c :: unqGo (d :: l)
def unquoteB (s : Bs) : Bs := unqGo (s.drop 1)
theorem unq_esc : ∀ v : Bs, unqGo (esc v ++ [34]) = v
  | [] => rfl
  | c :: v => by
    have ih := unq_esc v
    by_cases h : c = 92 ∨ c = 34
    · simp only [esc, if_pos h, List.cons_append]
      rw [unqGo, if_pos rfl, ih]
    · simp only [esc, if_neg h, List.cons_append]
      obtain ⟨d, l, hl⟩ : ∃ d l, esc v ++ [34] = d :: l := by
        cases hev : esc v with
        | nil => exact ⟨34, [], rfl⟩
        | cons d l => exact ⟨d, _, rfl⟩
      rw [hl, unqGo, if_neg (fun e => h (.inl e)), ← hl, ih]
theorem unquote_quote (v : Bs) : unquoteB (quoteB v) = v := by
  unfold unquoteB quoteB
  simp only [List.cons_append, List.drop_succ_cons, List.drop_zero]
  exact unq_esc v
theorem unqGo_len : ∀ l : Bs, (unqGo l).length + 1 ≤ l.length + 1 ∧ (l ≠ [] → (unqGo l).length + 1 ≤ l.length)
  | [] => by simp [unqGo]
  | [c] => by simp [unqGo]
  | c :: d :: l => by
    simp only [unqGo]
    split
    · have := unqGo_len l
      simp; omega
    · have := (unqGo_len (d :: l)).2 (by simp)
      simp at this ⊢; omega
end Go.Proofs.D
