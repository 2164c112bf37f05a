/-
  NODES, as the answer's reader reads them: what is left is the end of what was there.
-/
import Derived.Test.YtdlnenkemolnlaaGreatDoorT1
set_option linter.unusedVariables false
set_option linter.unusedSimpArgs false
namespace Go.Proofs.D
open Go Go.Abs
theorem takes_suf (c : UInt8) (l : Bs) : (takesB c l).2 <:+ l := by
  cases l with
  | nil => simp [takesB]
  | cons x t =>
    simp only [takesB]
    split
    · exact List.suffix_cons x t
    · exact List.suffix_refl _
theorem wantB_suf (c : UInt8) (st : Rs) : (wantB c st).1 <:+ st.1 := takes_suf c st.1
theorem name_suf (l : Bs) : (nameB l).2 <:+ l := List.dropWhile_suffix _
theorem quotedGo_suf : ∀ (l s : Bs) (r : Bs × Bs), quotedGo l s = some r → r.2 <:+ l
  | [], s, r, h => by simp [quotedGo] at h
  | [c], s, r, h => by
    simp only [quotedGo] at h
    split at h
    · cases h; simp
    · cases h
  | c :: d :: l, s, r, h => by
    simp only [quotedGo] at h
    split at h
    · cases h; exact List.suffix_cons _ _
    · split at h
      · exact (quotedGo_suf l _ r h).trans ((List.suffix_cons _ _).trans (List.suffix_cons _ _))
      · exact (quotedGo_suf (d :: l) _ r h).trans (List.suffix_cons _ _)
theorem quotedR_suf (st : Rs) : (quotedR st).2.1 <:+ st.1 := by
  unfold quotedR
  split
  · exact (wantB_suf 34 _).trans (wantB_suf 34 st)
  · cases hq : quotedGo (wantB 34 st).1 [] with
    | none => simp
    | some r => exact (quotedGo_suf _ _ _ hq).trans (wantB_suf 34 st)
theorem marks_suf : ∀ (n : Nat) (l : Bs), l.length ≤ n → (marksGo l).2 <:+ l
  | n, l, hn => by
    rw [marksGo]
    split
    · rename_i h
      have h1 := (takes_le 44 (nameB l).2).2 h
      have h2 := name_le l
      exact (marks_suf (n - 1) (takesB 44 (nameB l).2).2 (by omega)).trans ((takes_suf 44 _).trans (name_suf l))
    · exact (takes_suf 44 _).trans (name_suf l)
termination_by n l => l.length
decreasing_by omega
theorem textR_suf (st : Rs) : (textR st).2.1 <:+ st.1 := by
  unfold textR
  split
  · exact (wantB_suf 62 _).trans ((marks_suf _ _ (Nat.le_refl _)).trans ((takes_suf 60 _).trans (quotedR_suf st)))
  · exact quotedR_suf st
theorem attrR1_suf (l : Bs) : (attrR1 l).2.1 <:+ l := (quotedR_suf _).trans ((wantB_suf 61 _).trans (name_suf l))
theorem attrsR_suf : ∀ (n : Nat) (c : UInt8) (st : Rs), st.1.length ≤ n → (attrsR c st).2.1 <:+ st.1
  | n, c, st, hn => by
    rw [attrsR]
    split
    · rename_i h
      have h1 := (takes_le c st.1).2 h.1
      have h2 := attrR1_len (takesB c st.1).2
      exact (attrsR_suf (n - 1) 32 (attrR1 (takesB c st.1).2).2 (by omega)).trans ((attrR1_suf _).trans (takes_suf c st.1))
    · exact List.suffix_refl _
termination_by n c st => st.1.length
decreasing_by omega
theorem attrsF_suf (st : Rs) : (attrsF st).2.1 <:+ st.1 := by
  unfold attrsF
  split
  · exact (wantB_suf 41 _).trans (attrsR_suf _ 40 st (Nat.le_refl _))
  · exact List.suffix_refl _
theorem kids_suf {f : Rs → N × Rs} (hf : ∀ st : Rs, (f st).2.1 <:+ st.1) : ∀ (j : Nat) (st : Rs), (kidsF f j st).2.1 <:+ st.1
  | 0, st => List.suffix_refl _
  | j + 1, st => by
    simp only [kidsF]
    split
    · exact List.suffix_refl _
    · exact (kids_suf hf j _).trans (hf st)
theorem nodeR_suf : ∀ (k : Nat) (st : Rs), (nodeR k st).2.1 <:+ st.1
  | 0, st => List.suffix_refl _
  | k + 1, st => by
    simp only [nodeR]
    split
    · exact textR_suf st
    · exact (wantB_suf 93 _).trans ((kids_suf (nodeR_suf k) _ _).trans ((wantB_suf 91 _).trans ((attrsF_suf _).trans (name_suf st.1))))
theorem quotedR_short {st : Rs} (hb : (quotedR st).2.2 = false) : st.2 = false ∧ (quotedR st).1.length + (quotedR st).2.1.length + 2 ≤ st.1.length := by
  obtain ⟨h1, h2⟩ := quoted_alike st
  rw [h2 hb]
  exact (quoted_le st).2 (by rw [← h1]; exact hb)
theorem textR_short {st : Rs} (hb : (textR st).2.2 = false) : (textR st).2.1.length < st.1.length := by
  have hq : (quotedR st).2.2 = false := by
    unfold textR at hb
    split at hb
    · simp only [want_flag, Bool.or_eq_false_iff] at hb; exact hb.2
    · exact hb
  have h1 := (quotedR_short hq).2
  unfold textR
  split
  · have h2 := (wantB_suf 62 ((marksGo (takesB 60 (quotedR st).2.1).2).2, (quotedR st).2.2)).length_le
    have h3 := (marks_suf _ (takesB 60 (quotedR st).2.1).2 (Nat.le_refl _)).length_le
    have h4 := (takes_suf 60 (quotedR st).2.1).length_le
    simp only at h2 ⊢
    omega
  · simp only; omega
theorem nodeR_short {k : Nat} {l : Bs} (hb : (nodeR k (l, false)).2.2 = false) : (nodeR k (l, false)).2.1.length < l.length := by
  cases k with
  | zero => simp [nodeR] at hb
  | succ k =>
    simp only [nodeR] at hb ⊢
    by_cases hq : quoteNext l = true
    · simp only [hq, if_true] at hb ⊢
      exact textR_short hb
    · simp only [hq, Bool.false_eq_true, if_false] at hb ⊢
      have hn := (name_suf l).length_le
      have ha := (attrsF_suf ((nameB l).2, false)).length_le
      generalize attrsF ((nameB l).2, false) = a at hb ha ⊢
      simp only at ha
      have h1 := want_le 91 a.2
      have h2 := (kids_suf (nodeR_suf k) ((wantB 91 a.2).1.length + 1) (wantB 91 a.2)).length_le
      have h3 := (want_le 93 (kidsF (nodeR k) ((wantB 91 a.2).1.length + 1) (wantB 91 a.2)).2).2 hb
      cases hw : (wantB 91 a.2).2 with
      | true =>
        rw [kids_bad _ _ _ hw] at h3
        simp only at h3
        rw [hw] at h3
        cases h3.1
      | false =>
        have h4 := h1.2 hw
        omega
/-- What the answer makes of a text. -/
theorem readR_parse (s : Bs) : parseN s = if (readR s).2.2 = true ∨ ¬ (readR s).2.1 = [] ∨ ¬ (readR s).1.w = s ∨ (readR s).1.form = false then (n0, 2) else if (readR s).1.check = 0 then ((readR s).1, 0) else (n0, (readR s).1.check) := by
  obtain ⟨h1, h2⟩ := read_alike s
  have hf : ∀ n : N, (decide (n.check = 2) = true) = (n.form = false) := fun n => by
    refine propext ?_
    unfold N.check
    cases n.form with
    | false => simp
    | true =>
      simp only [Bool.true_eq_false, if_false, decide_eq_true_eq]
      constructor
      · intro h; split at h
        · cases h
        · split at h <;> cases h
      · intro h; cases h
  unfold parseN badN
  cases hb : (readR s).2.2 with
  | true => rw [hb] at h1; simp [← h1]
  | false =>
    rw [← h2 hb, hb]
    simp only [Bool.or_eq_true, hf]
    simp [or_assoc]
end Go.Proofs.D
/-
  COMPLEMENTS, as the answer reads them: what is written is read as it was, so that both readers answer alike.
-/
set_option linter.unusedVariables false
set_option linter.unusedSimpArgs false
namespace Go.Proofs.D
open Go Go.Abs
/-- A quoted text: what it says, and what is behind it. -/
def quotedX : Bs → Option (Bs × Bs)
  | [] => none
  | c :: t => if c = 34 then quotedGo t [] else none
theorem quotedX_len {l : Bs} {p : Bs × Bs} (h : quotedX l = some p) : p.1.length + p.2.length + 2 ≤ l.length ∧ p.2 <:+ l := by
  cases l with
  | nil => simp [quotedX] at h
  | cons c t =>
    simp only [quotedX] at h
    split at h
    · have := quotedGo_le _ _ _ h
      simp at this ⊢
      exact ⟨by omega, (quotedGo_suf _ _ _ h).trans (List.suffix_cons _ _)⟩
    · cases h
def opnX (o : Int) (c : UInt8) : Int := if c = 91 then o + 1 else if c = 93 then o - 1 else o
/-- What is behind the bracket that ends. -/
def cGo (o : Int) (l : Bs) : Option Bs := match l with
  | [] => none
  | c :: t => if c = 34 then match hq : quotedGo t [] with
      | none => none
      | some p => cGo o p.2
    else if opnX o c = 0 then some t else cGo (opnX o c) t
termination_by l.length
decreasing_by
  · have := quotedGo_le _ _ _ hq; simp at this ⊢; omega
  · simp
theorem cGo_nil (o : Int) : cGo o [] = none := by rw [cGo]
theorem cGo_cons (o : Int) (c : UInt8) (t : Bs) (h : ¬ c = 34) : cGo o (c :: t) = if opnX o c = 0 then some t else cGo (opnX o c) t := by
  rw [cGo]; simp only [h, if_false]
theorem cGo_quoted (o : Int) (t : Bs) : cGo o (34 :: t) = match quotedGo t [] with | none => none | some p => cGo o p.2 := by
  rw [cGo]
  simp only [if_true]
  split <;> rename_i h <;> rw [h]
theorem cGo_quote (o : Int) (v r : Bs) : cGo o (quoteB v ++ r) = cGo o r := by
  have e : quoteB v ++ r = 34 :: (esc v ++ 34 :: r) := by simp [quoteB]
  rw [e, cGo_quoted, quotedGo_esc]
theorem cGo_plain : ∀ (s r : Bs) (o : Int), (∀ c ∈ s, plainC c = true) → o ≠ 0 → cGo o (s ++ r) = cGo o r
  | [], r, o, _, _ => rfl
  | c :: s, r, o, h, ho => by
    have hc := h c (by simp)
    simp only [plainC, Bool.and_eq_true, Bool.not_eq_true', decide_eq_false_iff_not] at hc
    have ho2 : opnX o c = o := by simp [opnX, hc.1.2, hc.2]
    rw [List.cons_append, cGo_cons o c _ hc.1.1, ho2, if_neg ho]
    exact cGo_plain s r o (fun x hx => h x (by simp [hx])) ho
theorem cGo_attrT : ∀ (l : List (ByteArray × ByteArray)) (r : Bs) (o : Int), (∀ p ∈ l, isName p.1 = true) → o ≠ 0 → cGo o (sepTail 32 (l.map attrB) ++ r) = cGo o r
  | [], r, o, _, _ => by simp [sepTail]
  | p :: l, r, o, h, ho => by
    have ih := cGo_attrT l r o (fun q hq => h q (by simp [hq])) ho
    have e : sepTail 32 ((p :: l).map attrB) ++ r = (32 :: p.1.data.toList ++ [61]) ++ (quoteB p.2.data.toList ++ (sepTail 32 (l.map attrB) ++ r)) := by simp [sepTail, attrB]
    rw [e, cGo_plain _ _ o (fun c hc => by
      simp only [List.cons_append, List.mem_cons, List.mem_append, List.mem_singleton] at hc
      rcases hc with rfl | hc | hc
      · decide
      · exact name_plain (h p (by simp)) c hc
      · rcases hc with rfl | hc
        · decide
        · cases hc) ho, cGo_quote, ih]
theorem cGo_headA (a : List (ByteArray × ByteArray)) (r : Bs) (o : Int) (h : ∀ p ∈ a, isName p.1 = true) (ho : o ≠ 0) : cGo o (headA a ++ r) = cGo o r := by
  unfold headA
  split
  · simp
  · rename_i ha
    obtain ⟨p, l, rfl⟩ := List.exists_cons_of_ne_nil ha
    have e : 40 :: (sepBy 32 ((p :: l).map attrB) ++ [41]) ++ r = (40 :: p.1.data.toList ++ [61]) ++ (quoteB p.2.data.toList ++ (sepTail 32 (l.map attrB) ++ ([41] ++ r))) := by simp [sepBy, attrB]
    rw [e, cGo_plain _ _ o (fun c hc => by
      simp only [List.cons_append, List.mem_cons, List.mem_append, List.mem_singleton] at hc
      rcases hc with rfl | hc | hc
      · decide
      · exact name_plain (h p (by simp)) c hc
      · rcases hc with rfl | hc
        · decide
        · cases hc) ho, cGo_quote, cGo_attrT l _ o (fun q hq => h q (by simp [hq])) ho, cGo_plain [41] r o (by decide) ho]
theorem cGo_node (n : N) (r : Bs) (o : Int) (hn : n.form = true) (ho : 0 < o) : cGo o (n.w ++ r) = cGo o r := by
  have ho' : o ≠ 0 := by omega
  by_cases hk : n.kind = textK
  · obtain ⟨p1, _, _⟩ := form_text hn hk
    rw [N.w_eq, if_pos hk, List.append_assoc, cGo_quote, cGo_plain _ _ o (headT_plain p1) ho']
  · obtain ⟨p1, p2, p3, p4, p5⟩ := form_kind hn hk
    have hgo : ∀ (l : List N), (∀ x ∈ l, x.form = true ∧ ∀ r (o : Int), 0 < o → cGo o (x.w ++ r) = cGo o r) → ∀ (r : Bs) (o : Int), 0 < o → cGo o (N.w.go l ++ r) = cGo o r := by
      intro l
      induction l with
      | nil => intro _ r o _; simp [N.w.go]
      | cons x l ih =>
        intro hl r o ho
        simp only [N.w.go, List.append_assoc]
        rw [(hl x (by simp)).2 _ o ho, ih (fun y hy => hl y (by simp [hy])) r o ho]
    have e : n.w ++ r = n.kind.data.toList ++ (headA n.attrs ++ (91 :: (N.w.go n.kids ++ (93 :: r)))) := by rw [N.w_eq, if_neg hk]; simp
    have o1 : opnX o 91 = o + 1 := by simp [opnX]
    have o2 : opnX (o + 1) 93 = o := by simp [opnX]
    rw [e, cGo_plain _ _ o (name_plain p1) ho', cGo_headA _ _ o p4 ho', cGo_cons o 91 _ (by decide), o1, if_neg (by omega), hgo n.kids (fun x hx => ⟨p5 x hx, fun r o ho => cGo_node x r o (p5 x hx) ho⟩) _ (o + 1) (by omega), cGo_cons _ 93 _ (by decide), o2, if_neg ho']
termination_by SizeOf.sizeOf n
decreasing_by exact N.kids_lt hx
theorem cGo_go : ∀ (l : List N) (r : Bs) (o : Int), (∀ x ∈ l, x.form = true) → 0 < o → cGo o (N.w.go l ++ r) = cGo o r
  | [], r, o, _, _ => by simp [N.w.go]
  | x :: l, r, o, hl, ho => by
    simp only [N.w.go, List.append_assoc]
    rw [cGo_node x _ o (hl x (by simp)) ho, cGo_go l r o (fun y hy => hl y (by simp [hy])) ho]
theorem cGo_kids (l : List N) (r : Bs) (hl : ∀ x ∈ l, x.form = true) : cGo 0 (91 :: (N.w.go l ++ 93 :: r)) = some r := by
  have o1 : opnX 0 91 = 1 := by decide
  have o2 : opnX 1 93 = 0 := by decide
  rw [cGo_cons 0 91 _ (by decide), o1, if_neg (by decide), cGo_go l _ 1 hl (by decide), cGo_cons 1 93 _ (by decide), o2, if_pos rfl]
theorem cGo_len : ∀ (n : Nat) (o : Int) (l r : Bs), l.length ≤ n → cGo o l = some r → r.length < l.length ∧ r <:+ l
  | n, o, [], r, _, h => by rw [cGo_nil] at h; cases h
  | n, o, c :: t, r, hn, h => by
    by_cases hc : c = 34
    · subst hc
      rw [cGo_quoted] at h
      cases hq : quotedGo t [] with
      | none => rw [hq] at h; cases h
      | some p =>
        rw [hq] at h
        have hl : p.1.length + p.2.length + 1 ≤ t.length := by simpa using quotedGo_le _ _ _ hq
        simp only [List.length_cons] at hn
        obtain ⟨h1, h2⟩ := cGo_len (n - 1) o p.2 r (by omega) h
        exact ⟨by simp; omega, h2.trans ((quotedGo_suf _ _ _ hq).trans (List.suffix_cons _ _))⟩
    · rw [cGo_cons o c t hc] at h
      split at h
      · cases h; exact ⟨by simp, List.suffix_cons _ _⟩
      · simp only [List.length_cons] at hn
        obtain ⟨h1, h2⟩ := cGo_len (n - 1) _ t r (by omega) h
        exact ⟨by simp; omega, h2.trans (List.suffix_cons _ _)⟩
termination_by n o l => l.length
decreasing_by
  · simp only [List.length_cons]; omega
  · simp only [List.length_cons]; omega
/-- What stands in the bracket: r is what is behind it. -/
def inX (l r : Bs) : Bs := (l.drop 1).take (l.length - r.length - 2)
/-- The entry that begins there, and what is behind it. -/
def entryX (l : Bs) : Option (Ent × Bs) := match l with
  | [] => none
  | c :: t => if c = 45 then some (e0, t) else if c = 61 then match quotedX t with
      | none => none
      | some p => if headIs 91 p.2 = true then match cGo 0 p.2 with
          | none => none
          | some r => if (parseAllB (inX p.2 r)).2 = 0 then some (⟨true, bytesOf p.1, (parseAllB (inX p.2 r)).1⟩, r) else none
        else some (⟨true, bytesOf p.1, []⟩, p.2)
    else none
theorem cGo_two {l r : Bs} (hh : headIs 91 l = true) (h : cGo 0 l = some r) : r.length + 2 ≤ l.length := by
  cases l with
  | nil => simp [headIs] at hh
  | cons x t =>
    obtain rfl : x = 91 := by simpa [headIs] using hh
    rw [cGo_cons 0 91 t (by decide), if_neg (by decide)] at h
    have := (cGo_len _ _ t r (Nat.le_refl _) h).1
    simp; omega
theorem entryX_len {l : Bs} {p : Ent × Bs} (h : entryX l = some p) : p.2 <:+ l ∧ p.2.length < l.length ∧ p.1.wt + 7 * p.2.length ≤ 7 * l.length := by
  have w0 : e0.wt = 1 := by
    have h0 : (⟨#[]⟩ : ByteArray).size = 0 := rfl
    simp [Ent.wt, e0, N.wt.go, h0]
  cases l with
  | nil => simp [entryX] at h
  | cons c t =>
    simp only [entryX] at h
    split at h
    · cases h
      refine ⟨List.suffix_cons _ _, by simp, ?_⟩
      simp [w0]; omega
    · split at h
      · cases hq : quotedX t with
        | none => rw [hq] at h; cases h
        | some q =>
          rw [hq] at h
          obtain ⟨l1, l2⟩ := quotedX_len hq
          simp only at h
          split at h
          · rename_i hh
            cases hg : cGo 0 q.2 with
            | none => rw [hg] at h; cases h
            | some r =>
              rw [hg] at h
              simp only at h
              split at h
              · cases h
                have hw := parseAll_wt (inX q.2 r)
                obtain ⟨h1, h2⟩ := cGo_len _ _ _ _ (Nat.le_refl _) hg
                have h3 := cGo_two hh hg
                have h4 : (inX q.2 r).length ≤ q.2.length - r.length - 2 := by unfold inX; rw [List.length_take]; omega
                have hs : (bytesOf q.1).size = q.1.length := rfl
                refine ⟨(h2.trans l2).trans (List.suffix_cons _ _), by simp; omega, ?_⟩
                simp only [Ent.wt, hs, List.length_cons]
                omega
              · cases h
          · cases h
            have hs : (bytesOf q.1).size = q.1.length := rfl
            refine ⟨l2.trans (List.suffix_cons _ _), by simp; omega, ?_⟩
            simp only [Ent.wt, hs, List.length_cons, N.wt.go]
            omega
      · cases h
def dropIf (s : List Ent) (l : Bs) : Bs := if 0 < s.length then l.drop 1 else l
def pLoopX (c : Cm) (s : List Ent) (l : Bs) : Option Cm := match l with
  | [] => some c
  | x :: t => if x = 10 then pLoopX (c ++ [s]) [] t else match he : entryX (dropIf s (x :: t)) with
      | none => none
      | some p => pLoopX c (s ++ [p.1]) p.2
termination_by l.length
decreasing_by
  · simp
  · have h1 := (entryX_len he).2.1
    unfold dropIf at h1
    split at h1 <;> simp at h1 ⊢ <;> omega
theorem pLoopX_nil (c : Cm) (s : List Ent) : pLoopX c s [] = some c := by rw [pLoopX]
theorem pLoopX_line (c : Cm) (s : List Ent) (t : Bs) : pLoopX c s (10 :: t) = pLoopX (c ++ [s]) [] t := by rw [pLoopX]; simp
theorem pLoopX_ent (c : Cm) (s : List Ent) (x : UInt8) (t : Bs) (h : ¬ x = 10) : pLoopX c s (x :: t) = match entryX (dropIf s (x :: t)) with
    | none => none
    | some p => pLoopX c (s ++ [p.1]) p.2 := by
  rw [pLoopX]
  simp only [h, if_false]
  split <;> rename_i e <;> rw [e]
def parseX (t : Bs) : Cm × Int := match pLoopX [] [] t with
  | none => ([], 2)
  | some c => if okC c = true ∧ compB c = t then (c, 0) else ([], 2)
theorem drop_le (s : List Ent) (l : Bs) : (dropIf s l).length ≤ l.length ∧ dropIf s l <:+ l := by
  unfold dropIf
  split
  · exact ⟨by simp, List.drop_suffix 1 l⟩
  · exact ⟨Nat.le_refl _, List.suffix_refl _⟩
theorem pLoopX_wt : ∀ (n : Nat) (c : Cm) (s : List Ent) (t : Bs) (d : Cm), t.length ≤ n → pLoopX c s t = some d → compWt d ≤ compWt c + (s.map Ent.wt).sum + 7 * t.length
  | n, c, s, [], d, _, h => by rw [pLoopX_nil] at h; cases h; omega
  | n, c, s, x :: t, d, hn, h => by
    simp only [List.length_cons] at hn
    by_cases hx : x = 10
    · subst hx
      rw [pLoopX_line] at h
      have := pLoopX_wt (n - 1) _ _ _ d (by omega) h
      rw [show compWt (c ++ [s]) = compWt c + compWt [s] by simp [compWt]] at this
      simp only [compWt, List.map_cons, List.map_nil, List.sum_cons, List.sum_nil, slotWt, List.length_cons] at this ⊢
      omega
    · rw [pLoopX_ent c s x t hx] at h
      cases he : entryX (dropIf s (x :: t)) with
      | none => rw [he] at h; cases h
      | some p =>
        rw [he] at h
        obtain ⟨_, h1, h2⟩ := entryX_len he
        have h3 := (drop_le s (x :: t)).1
        simp only [List.length_cons] at h3 ⊢
        have := pLoopX_wt (n - 1) _ _ _ d (by omega) h
        simp only [List.map_append, List.map_cons, List.map_nil, List.sum_append, List.sum_cons, List.sum_nil] at this
        omega
termination_by n c s t => t.length
decreasing_by
  · simp
  · simp only [List.length_cons] at *; omega
/-! ### what is written is read -/
theorem entryX_app (e : Ent) (r : Bs) (he : e.ok = true) (hr : Stop (· == 91) r) : entryX (e.w ++ r) = some (e, r) := by
  unfold Ent.ok at he
  cases hh : e.has with
  | false =>
    rw [hh] at he
    simp [Ent.none] at he
    have hw : e.w = [45] := by simp [Ent.w, hh]
    have : e = e0 := Ent.ext' hh he.1 he.2
    rw [hw, this]
    simp [entryX]
  | true =>
    rw [hh] at he
    simp only [if_true, Bool.and_eq_true, decide_eq_true_eq] at he
    have hf := x_form (check_form he.2)
    have hq : ∀ r : Bs, quotedX (quoteB e.value.data.toList ++ r) = some (e.value.data.toList, r) := fun r => by
      have e1 : quoteB e.value.data.toList ++ r = 34 :: (esc e.value.data.toList ++ 34 :: r) := by simp [quoteB]
      rw [e1]
      simp only [quotedX, if_true]
      rw [quotedGo_esc]
      simp
    by_cases h0 : N.w.go e.rest = []
    · have hre := (go_nil hf).1 h0
      have hw : e.w ++ r = 61 :: (quoteB e.value.data.toList ++ r) := by rw [Ent.w, if_pos hh, if_pos h0]; simp
      rw [hw]
      simp only [entryX, hq, headIs_stop hr]
      simp only [if_neg (show ¬ (61 : UInt8) = 45 by decide), if_true, Bool.false_eq_true, if_false, Option.some.injEq, Prod.mk.injEq, and_true]
      exact Ent.ext' hh.symm (bytesOf_list _) hre.symm
    · have hw : e.w ++ r = 61 :: (quoteB e.value.data.toList ++ (91 :: (N.w.go e.rest ++ 93 :: r))) := by rw [Ent.w, if_pos hh, if_neg h0]; simp
      have hin : inX (91 :: (N.w.go e.rest ++ 93 :: r)) r = N.w.go e.rest := by
        unfold inX
        have : (91 :: (N.w.go e.rest ++ 93 :: r)).length - r.length - 2 = (N.w.go e.rest).length := by simp; omega
        rw [this]
        simp
      have hpa := parseAll_app e.rest he.2
      have h91 : headIs 91 (91 :: (N.w.go e.rest ++ 93 :: r)) = true := by simp [headIs]
      rw [hw]
      simp only [entryX, hq, h91, cGo_kids e.rest r hf, hin, hpa]
      simp only [if_neg (show ¬ (61 : UInt8) = 45 by decide), if_true, Option.some.injEq, Prod.mk.injEq, and_true]
      exact Ent.ext' hh.symm (bytesOf_list _) rfl
theorem ent_head (e : Ent) (r : Bs) : ∃ x t, e.w ++ r = x :: t ∧ ¬ x = 10 := by
  obtain ⟨x, t, h1, h2⟩ := ent_first e
  exact ⟨x, t ++ r, by rw [h1]; simp, h2⟩
theorem lineX_tail : ∀ (l : List Ent) (c : Cm) (s : List Ent) (r : Bs), 0 < s.length → (∀ e ∈ l, Ent.ok e = true) → pLoopX c s (sepTail 32 (l.map Ent.w) ++ 10 :: r) = pLoopX (c ++ [s ++ l]) [] r
  | [], c, s, r, _, _ => by simp [sepTail, pLoopX_line]
  | e :: l, c, s, r, hs, h => by
    have ih := lineX_tail l c (s ++ [e]) r (by simp) (fun x hx => h x (by simp [hx]))
    have e1 : sepTail 32 ((e :: l).map Ent.w) ++ 10 :: r = 32 :: (e.w ++ (sepTail 32 (l.map Ent.w) ++ 10 :: r)) := by simp [sepTail]
    have hst : Stop (· == 91) (sepTail 32 (l.map Ent.w) ++ 10 :: r) := by
      cases l with
      | nil => exact stop_cons (by decide)
      | cons x l => exact stop_cons (by decide)
    have hd : dropIf s (32 :: (e.w ++ (sepTail 32 (l.map Ent.w) ++ 10 :: r))) = e.w ++ (sepTail 32 (l.map Ent.w) ++ 10 :: r) := by simp [dropIf, hs]
    rw [e1, pLoopX_ent _ _ _ _ (by decide), hd, entryX_app e _ (h e (by simp)) hst]
    simp only
    rw [ih]
    simp
theorem lineX_app (l : List Ent) (c : Cm) (r : Bs) (h : ∀ e ∈ l, Ent.ok e = true) : pLoopX c [] (lineB l ++ r) = pLoopX (c ++ [l]) [] r := by
  cases l with
  | nil => simp [lineB, sepBy, pLoopX_line]
  | cons e l =>
    have hst : Stop (· == 91) (sepTail 32 (l.map Ent.w) ++ 10 :: r) := by
      cases l with
      | nil => exact stop_cons (by decide)
      | cons x l => exact stop_cons (by decide)
    have e1 : lineB (e :: l) ++ r = e.w ++ (sepTail 32 (l.map Ent.w) ++ 10 :: r) := by simp [lineB, sepBy]
    obtain ⟨x, t, h1, h2⟩ := ent_head e (sepTail 32 (l.map Ent.w) ++ 10 :: r)
    have hd : dropIf [] (x :: t) = x :: t := by simp [dropIf]
    have hea := entryX_app e _ (h e (by simp)) hst
    rw [h1] at hea
    rw [e1, h1, pLoopX_ent _ _ _ _ h2, hd, hea]
    simp only [List.nil_append]
    rw [lineX_tail l c [e] r (by simp) (fun x hx => h x (by simp [hx]))]
    rfl
theorem compX_app : ∀ (d c : Cm), okC d = true → pLoopX c [] (compB d) = some (c ++ d)
  | [], c, _ => by simp [compB, pLoopX_nil]
  | l :: d, c, h => by
    simp only [okC, List.all_cons, Bool.and_eq_true, List.all_eq_true] at h
    have ih := compX_app d (c ++ [l]) (by simp only [okC, List.all_eq_true]; exact h.2)
    rw [compB, lineX_app l c _ h.1, ih]
    simp
/-- Both readers answer alike. -/
theorem parseX_eq (t : Bs) : parseX t = parseC t := by
  by_cases h : ∃ c, okC c = true ∧ compB c = t
  · obtain ⟨c, h1, rfl⟩ := h
    rw [parse_print c h1]
    unfold parseX
    rw [compX_app c [] h1]
    simp [h1]
  · have h1 : parseX t = ([], 2) := by
      unfold parseX
      split
      · rfl
      · rename_i c _
        rw [if_neg (fun hc => h ⟨c, hc⟩)]
    have h2 : parseC t = ([], 2) := by
      unfold parseC
      split
      · rfl
      · rename_i c _
        rw [if_neg (fun hc => h ⟨c, hc⟩)]
    rw [h1, h2]
end Go.Proofs.D
