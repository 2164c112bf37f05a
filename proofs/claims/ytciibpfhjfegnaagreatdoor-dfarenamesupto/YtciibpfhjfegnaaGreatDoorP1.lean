/-
  NODES, and how they are written: what is written is read in one way alone.
-/
import Derived.Test.YtciibpfhjfegnaaGreatDoorLO
import Derived.Lib.ValidU
set_option linter.unusedVariables false
set_option linter.unusedSimpArgs false
namespace Go.Proofs.D
open Go Go.Abs
abbrev Bs := List UInt8
theorem bsExt {s t : ByteArray} (h : s.data.toList = t.data.toList) : s = t := by
  obtain ⟨⟨l⟩⟩ := s
  obtain ⟨⟨m⟩⟩ := t
  simp at h
  rw [h]
/-! ### what is read in one way -/
/-- Behind what is written, no more of it begins. -/
def Stop (p : UInt8 → Bool) (r : Bs) : Prop := ∀ c, r.head? = some c → p c = false
theorem stop_cons {p : UInt8 → Bool} {c : UInt8} {r : Bs} (h : p c = false) : Stop p (c :: r) := fun d hd => by simp at hd; rw [← hd]; exact h
theorem stop_nil {p : UInt8 → Bool} : Stop p [] := fun d hd => by simp at hd
/-- f is read in one way, where E holds of the rest. -/
def Uni {α : Type} (f : α → Bs) (S : α → Prop) (E : Bs → Prop) : Prop := ∀ a b, S a → S b → ∀ r r', E r → E r' → f a ++ r = f b ++ r' → a = b ∧ r = r'
theorem uni_run (p : UInt8 → Bool) : Uni (fun a : Bs => a) (fun a => ∀ c ∈ a, p c = true) (Stop p)
  | [], [], _, _, r, r', _, _, h => ⟨rfl, by simpa using h⟩
  | [], y :: b, _, hb, r, r', hr, _, h => by
    simp only [List.nil_append] at h
    have := hr y (by rw [h]; rfl)
    rw [hb y (by simp)] at this
    cases this
  | x :: a, [], ha, _, r, r', _, hr', h => by
    simp only [List.nil_append] at h
    have := hr' x (by rw [← h]; rfl)
    rw [ha x (by simp)] at this
    cases this
  | x :: a, y :: b, ha, hb, r, r', hr, hr', h => by
    simp only [List.cons_append, List.cons.injEq] at h
    obtain ⟨i1, i2⟩ := uni_run p a b (fun c hc => ha c (by simp [hc])) (fun c hc => hb c (by simp [hc])) r r' hr hr' h.2
    exact ⟨by rw [h.1, i1], i2⟩
/-- A text between quotes. -/
def esc : Bs → Bs
  | [] => []
  | c :: l => if c = 92 ∨ c = 34 then 92 :: c :: esc l else c :: esc l
def quoteB (s : Bs) : Bs := 34 :: esc s ++ [34]
theorem esc_uni : ∀ (a b : Bs) (r r' : Bs), esc a ++ 34 :: r = esc b ++ 34 :: r' → a = b ∧ r = r'
  | [], [], r, r', h => ⟨rfl, by simpa [esc] using h⟩
  | [], y :: b, r, r', h => by
    simp only [esc] at h
    split at h
    · simp at h
    · rename_i hy
      simp at h
      exact absurd (.inr h.1.symm) hy
  | x :: a, [], r, r', h => by
    simp only [esc] at h
    split at h
    · simp at h
    · rename_i hx
      simp at h
      exact absurd (.inr h.1) hx
  | x :: a, y :: b, r, r', h => by
    simp only [esc] at h
    by_cases hx : x = 92 ∨ x = 34
    · by_cases hy : y = 92 ∨ y = 34
      · rw [if_pos hx, if_pos hy] at h
        simp only [List.cons_append, List.cons.injEq, true_and] at h
        obtain ⟨i1, i2⟩ := esc_uni a b r r' h.2
        exact ⟨by rw [h.1, i1], i2⟩
      · rw [if_pos hx, if_neg hy] at h
        simp only [List.cons_append, List.cons.injEq] at h
        exact absurd (.inl h.1.symm) hy
    · by_cases hy : y = 92 ∨ y = 34
      · rw [if_neg hx, if_pos hy] at h
        simp only [List.cons_append, List.cons.injEq] at h
        exact absurd (.inl h.1) hx
      · rw [if_neg hx, if_neg hy] at h
        simp only [List.cons_append, List.cons.injEq] at h
        obtain ⟨i1, i2⟩ := esc_uni a b r r' h.2
        exact ⟨by rw [h.1, i1], i2⟩
theorem quote_uni : Uni quoteB (fun _ => True) (fun _ => True) := fun a b _ _ r r' _ _ h => by
  simp only [quoteB, List.cons_append, List.append_assoc, List.nil_append, List.cons.injEq, true_and] at h
  exact esc_uni a b r r' h
/-- Rows, with a sign between the parts. -/
def sepTail (s : UInt8) (l : List Bs) : Bs := l.flatMap fun x => s :: x
def sepBy (s : UInt8) : List Bs → Bs
  | [] => []
  | x :: l => x ++ sepTail s l
theorem sepTail_uni {α : Type} {f : α → Bs} {S : α → Prop} {E : Bs → Prop} (hf : Uni f S E) (s : UInt8) (hs : ∀ t, E (s :: t)) : ∀ (l m : List α), (∀ x ∈ l, S x) → (∀ x ∈ m, S x) → ∀ r r', E r → E r' → Stop (· == s) r → Stop (· == s) r' → sepTail s (l.map f) ++ r = sepTail s (m.map f) ++ r' → l = m ∧ r = r'
  | [], [], _, _, r, r', _, _, _, _, h => ⟨rfl, by simpa [sepTail] using h⟩
  | [], y :: m, _, _, r, r', _, _, hr, _, h => by
    simp [sepTail] at h
    have := hr s (by rw [h]; rfl)
    simp at this
  | x :: l, [], _, _, r, r', _, _, _, hr', h => by
    simp [sepTail] at h
    have := hr' s (by rw [← h]; rfl)
    simp at this
  | x :: l, y :: m, hl, hm, r, r', e1, e2, hr, hr', h => by
    simp only [sepTail, List.map_cons, List.flatMap_cons, List.cons_append, List.append_assoc, List.cons.injEq, true_and] at h
    have hE : ∀ (k : List α) (q : Bs), E q → E (sepTail s (k.map f) ++ q) := fun k q hq => by
      cases k with
      | nil => simpa [sepTail] using hq
      | cons z k => simp only [sepTail, List.map_cons, List.flatMap_cons, List.cons_append]; exact hs _
    obtain ⟨i1, i2⟩ := hf x y (hl x (by simp)) (hm y (by simp)) _ _ (hE l r e1) (hE m r' e2) h
    obtain ⟨j1, j2⟩ := sepTail_uni hf s hs l m (fun z hz => hl z (by simp [hz])) (fun z hz => hm z (by simp [hz])) r r' e1 e2 hr hr' i2
    exact ⟨by rw [i1, j1], j2⟩
theorem sepBy_uni {α : Type} {f : α → Bs} {S : α → Prop} {E : Bs → Prop} (hf : Uni f S E) (s : UInt8) (hs : ∀ t, E (s :: t)) (l m : List α) (hl : ∀ x ∈ l, S x) (hm : ∀ x ∈ m, S x) (hl0 : l ≠ []) (hm0 : m ≠ []) (r r' : Bs) (e1 : E r) (e2 : E r')
    (hr : Stop (· == s) r) (hr' : Stop (· == s) r') (h : sepBy s (l.map f) ++ r = sepBy s (m.map f) ++ r') : l = m ∧ r = r' := by
  cases l with
  | nil => exact absurd rfl hl0
  | cons x l =>
    cases m with
    | nil => exact absurd rfl hm0
    | cons y m =>
      refine sepTail_uni hf s hs (x :: l) (y :: m) hl hm r r' e1 e2 hr hr' ?_
      simp only [sepBy, List.map_cons, List.append_assoc] at h
      simp only [sepTail, List.map_cons, List.flatMap_cons, List.cons_append, List.append_assoc, List.cons.injEq, true_and]
      exact h
/-! ### nodes -/
inductive N where
  | mk (kind text : ByteArray) (marks : List ByteArray) (attrs : List (ByteArray × ByteArray)) (kids : List N)
def N.kind : N → ByteArray | .mk a _ _ _ _ => a
def N.text : N → ByteArray | .mk _ a _ _ _ => a
def N.marks : N → List ByteArray | .mk _ _ a _ _ => a
def N.attrs : N → List (ByteArray × ByteArray) | .mk _ _ _ a _ => a
def N.kids : N → List N | .mk _ _ _ _ a => a
theorem N.kids_lt {e x : N} (h : x ∈ e.kids) : SizeOf.sizeOf x < SizeOf.sizeOf e := by
  obtain ⟨a, b, c, d, kids⟩ := e
  have := List.sizeOf_lt_of_mem h
  have e : (N.mk a b c d kids).kids = kids := rfl
  rw [e] at this; simp; omega
theorem N.ext {a b : N} (h1 : a.kind = b.kind) (h2 : a.text = b.text) (h3 : a.marks = b.marks) (h4 : a.attrs = b.attrs) (h5 : a.kids = b.kids) : a = b := by
  obtain ⟨⟩ := a
  obtain ⟨⟩ := b
  simp only [N.kind, N.text, N.marks, N.attrs, N.kids] at h1 h2 h3 h4 h5
  subst h1 h2 h3 h4 h5
  rfl
def textK : ByteArray := ⟨#[116, 101, 120, 116]⟩
/-- Names that rise. -/
def notUp (s q : ByteArray) : Bool := Op.bytesLess s.toList q.toList || decide (s = q)
def riseFrom : Option ByteArray → List ByteArray → Bool
  | _, [] => true
  | p, s :: l => isName s && (match p with | none => true | some q => !notUp s q) && riseFrom (some s) l
def rise (l : List ByteArray) : Bool := riseFrom none l
theorem rise_names : ∀ (l : List ByteArray) (p : Option ByteArray), riseFrom p l = true → ∀ s ∈ l, isName s = true
  | [], _, _, s, hs => by cases hs
  | x :: l, p, h, s, hs => by
    simp only [riseFrom, Bool.and_eq_true] at h
    rcases List.mem_cons.1 hs with rfl | hs
    · exact h.1.1
    · exact rise_names l _ h.2 s hs
def utfOk (s : ByteArray) : Bool := Lib.validD s.data.toList
def value (s : ByteArray) : Bool := decide ((s.size : Int) ≤ 40) && utfOk s
def N.isText (n : N) : Bool := decide (n.kind = textK)
def alike (a b : N) : Bool := a.isText && b.isText && decide (a.marks = b.marks)
/-- Is a node well formed? -/
def N.form : N → Bool
  | .mk k t m a kids => if k = textK then !decide (t = ⟨#[]⟩) && utfOk t && rise m && decide (a = []) && decide (kids.length = 0)
    else a.all (fun p => value p.2) && isName k && decide (t = ⟨#[]⟩) && decide (m = []) && rise (a.map (·.1)) && go none kids
where go : Option N → List N → Bool
  | _, [] => true
  | p, x :: l => x.form && (match p with | none => true | some q => !alike q x) && go (some x) l
theorem N.form_eq (n : N) : n.form = if n.kind = textK then !decide (n.text = ⟨#[]⟩) && utfOk n.text && rise n.marks && decide (n.attrs = []) && decide (n.kids.length = 0)
    else n.attrs.all (fun p => value p.2) && isName n.kind && decide (n.text = ⟨#[]⟩) && decide (n.marks = []) && rise (n.attrs.map (·.1)) && N.form.go none n.kids := by
  obtain ⟨⟩ := n
  simp only [N.form]
  rfl
theorem form_go : ∀ (l : List N) (p : Option N), N.form.go p l = true → ∀ x ∈ l, x.form = true
  | [], _, _, s, hs => by cases hs
  | x :: l, p, h, s, hs => by
    simp only [N.form.go, Bool.and_eq_true] at h
    rcases List.mem_cons.1 hs with rfl | hs
    · exact h.1.1
    · exact form_go l _ h.2 s hs
theorem form_text {n : N} (h : n.form = true) (hk : n.kind = textK) : (∀ s ∈ n.marks, isName s = true) ∧ n.attrs = [] ∧ n.kids = [] := by
  rw [N.form_eq, if_pos hk] at h
  simp only [Bool.and_eq_true, decide_eq_true_eq, List.length_eq_zero_iff] at h
  exact ⟨rise_names _ _ h.1.1.2, h.1.2, h.2⟩
theorem form_kind {n : N} (h : n.form = true) (hk : ¬ n.kind = textK) : isName n.kind = true ∧ n.text = ⟨#[]⟩ ∧ n.marks = [] ∧ (∀ p ∈ n.attrs, isName p.1 = true) ∧ ∀ x ∈ n.kids, x.form = true := by
  rw [N.form_eq, if_neg hk] at h
  simp only [Bool.and_eq_true, decide_eq_true_eq] at h
  refine ⟨h.1.1.1.1.2, h.1.1.1.2, h.1.1.2, fun p hp => rise_names _ _ h.1.2 p.1 (List.mem_map_of_mem hp), form_go _ _ h.2⟩
/-- How it is written. -/
def headT (m : List ByteArray) : Bs := if m = [] then [] else 60 :: (sepBy 44 (m.map (·.data.toList)) ++ [62])
def attrB (p : ByteArray × ByteArray) : Bs := p.1.data.toList ++ 61 :: quoteB p.2.data.toList
def headA (a : List (ByteArray × ByteArray)) : Bs := if a = [] then [] else 40 :: (sepBy 32 (a.map attrB) ++ [41])
def N.w : N → Bs
  | .mk k t m a kids => if k = textK then quoteB t.data.toList ++ headT m else k.data.toList ++ headA a ++ 91 :: (go kids ++ [93])
where go : List N → Bs
  | [] => []
  | x :: l => x.w ++ go l
theorem N.w_eq (n : N) : n.w = if n.kind = textK then quoteB n.text.data.toList ++ headT n.marks else n.kind.data.toList ++ headA n.attrs ++ 91 :: (N.w.go n.kids ++ [93]) := by
  obtain ⟨⟩ := n
  simp only [N.w]
  rfl
def low8 (c : UInt8) : Bool := decide (97 ≤ c.toNat) && decide (c.toNat ≤ 122)
theorem name_low {s : ByteArray} (h : isName s = true) : s.data.toList ≠ [] ∧ ∀ c ∈ s.data.toList, low8 c = true := by
  simp only [isName, Bool.and_eq_true, decide_eq_true_eq, List.all_eq_true] at h
  refine ⟨fun h0 => ?_, fun c hc => by simpa [low8] using h.1.2 c hc⟩
  have h1 := h.1.1.1
  have : s.size = s.data.toList.length := Array.length_toList.symm
  rw [this, h0] at h1
  simp at h1
theorem name_uni : Uni (fun s : ByteArray => s.data.toList) (fun s => isName s = true) (Stop low8) := fun a b ha hb r r' hr hr' h => by
  obtain ⟨i1, i2⟩ := uni_run low8 _ _ (name_low ha).2 (name_low hb).2 r r' hr hr' h
  exact ⟨bsExt i1, i2⟩
theorem attr_uni : Uni attrB (fun p => isName p.1 = true) (fun _ => True) := fun a b ha hb r r' _ _ h => by
  simp only [attrB, List.append_assoc, List.cons_append] at h
  obtain ⟨i1, i2⟩ := name_uni a.1 b.1 ha hb _ _ (stop_cons (by decide)) (stop_cons (by decide)) h
  simp only [List.cons.injEq, true_and] at i2
  obtain ⟨j1, j2⟩ := quote_uni _ _ trivial trivial r r' trivial trivial i2
  exact ⟨Prod.ext i1 (bsExt j1), j2⟩
theorem headA_low (a : List (ByteArray × ByteArray)) (r : Bs) : Stop low8 (headA a ++ 91 :: r) := by
  unfold headA
  split
  · exact stop_cons (by decide)
  · exact stop_cons (by decide)
theorem headA_uni : ∀ a b, (∀ p ∈ a, isName p.1 = true) → (∀ p ∈ b, isName p.1 = true) → ∀ r r', headA a ++ 91 :: r = headA b ++ 91 :: r' → a = b ∧ r = r' := by
  intro a b ha hb r r' h
  unfold headA at h
  by_cases h1 : a = [] <;> by_cases h2 : b = []
  · subst h1 h2
    simpa using h
  · rw [if_pos h1, if_neg h2] at h
    simp at h
  · rw [if_neg h1, if_pos h2] at h
    simp at h
  · rw [if_neg h1, if_neg h2] at h
    simp only [List.cons_append, List.append_assoc, List.nil_append, List.cons.injEq, true_and] at h
    obtain ⟨i1, i2⟩ := sepBy_uni attr_uni 32 (fun _ => trivial) a b ha hb h1 h2 _ _ trivial trivial (stop_cons (by decide)) (stop_cons (by decide)) h
    simp at i2
    exact ⟨i1, i2⟩
theorem headT_uni : ∀ a b, (∀ p ∈ a, isName p = true) → (∀ p ∈ b, isName p = true) → ∀ r r', Stop (· == 60) r → Stop (· == 60) r' → headT a ++ r = headT b ++ r' → a = b ∧ r = r' := by
  intro a b ha hb r r' hr hr' h
  unfold headT at h
  by_cases h1 : a = [] <;> by_cases h2 : b = []
  · subst h1 h2
    simpa using h
  · rw [if_pos h1, if_neg h2] at h
    simp only [List.nil_append, List.cons_append] at h
    have := hr 60 (by rw [h]; rfl)
    simp at this
  · rw [if_neg h1, if_pos h2] at h
    simp only [List.nil_append, List.cons_append] at h
    have := hr' 60 (by rw [← h]; rfl)
    simp at this
  · rw [if_neg h1, if_neg h2] at h
    simp only [List.cons_append, List.append_assoc, List.nil_append, List.cons.injEq, true_and] at h
    obtain ⟨i1, i2⟩ := sepBy_uni name_uni 44 (fun _ => stop_cons (by decide)) a b ha hb h1 h2 _ _ (stop_cons (by decide)) (stop_cons (by decide)) (stop_cons (by decide)) (stop_cons (by decide)) h
    simp at i2
    exact ⟨i1, i2⟩
theorem w_first {n : N} (h : n.form = true) : ∃ c t, n.w = c :: t ∧ c ≠ 93 ∧ c ≠ 60 ∧ (n.kind = textK → c = 34) ∧ (¬ n.kind = textK → low8 c = true) := by
  rw [N.w_eq]
  by_cases hk : n.kind = textK
  · rw [if_pos hk]
    exact ⟨34, _, rfl, by decide, by decide, fun _ => rfl, fun h => absurd hk h⟩
  · rw [if_neg hk]
    obtain ⟨h1, h2⟩ := name_low (form_kind h hk).1
    cases hd : n.kind.data.toList with
    | nil => exact absurd hd h1
    | cons c l =>
      have hc := h2 c (by rw [hd]; simp)
      refine ⟨c, _, rfl, fun e => ?_, fun e => ?_, fun h => absurd h hk, fun _ => hc⟩
      · subst e; exact absurd hc (by decide)
      · subst e; exact absurd hc (by decide)
/-- The kids, as far as they are read in one way. -/
theorem kids_uni {l : List N} (ih : ∀ x ∈ l, ∀ y : N, y.form = true → ∀ r r', Stop (· == 60) r → Stop (· == 60) r' → x.w ++ r = y.w ++ r' → x = y ∧ r = r') : ∀ m : List N, (∀ x ∈ l, x.form = true) → (∀ x ∈ m, x.form = true) → ∀ r r', N.w.go l ++ 93 :: r = N.w.go m ++ 93 :: r' → l = m ∧ r = r' := by
  have hst : ∀ (m : List N) (r : Bs), (∀ x ∈ m, x.form = true) → Stop (· == 60) (N.w.go m ++ 93 :: r) := by
    intro m r hm
    cases m with
    | nil => exact stop_cons (by decide)
    | cons y m =>
      obtain ⟨c, t, h1, _, h3, _⟩ := w_first (hm y (by simp))
      simp only [N.w.go, h1, List.cons_append]
      exact stop_cons (by simpa using h3)
  induction l with
  | nil =>
    intro m _ hm r r' h
    cases m with
    | nil => exact ⟨rfl, by simpa [N.w.go] using h⟩
    | cons y m =>
      obtain ⟨c, t, h1, h2, _⟩ := w_first (hm y (by simp))
      simp only [N.w.go, h1, List.nil_append, List.cons_append, List.cons.injEq] at h
      exact absurd h.1.symm h2
  | cons x l ihl =>
    intro m hl hm r r' h
    cases m with
    | nil =>
      obtain ⟨c, t, h1, h2, _⟩ := w_first (hl x (by simp))
      simp only [N.w.go, h1, List.nil_append, List.cons_append, List.cons.injEq] at h
      exact absurd h.1 h2
    | cons y m =>
      simp only [N.w.go, List.append_assoc] at h
      obtain ⟨i1, i2⟩ := ih x (by simp) y (hm y (by simp)) _ _ (hst l r fun z hz => hl z (by simp [hz])) (hst m r' fun z hz => hm z (by simp [hz])) h
      obtain ⟨j1, j2⟩ := ihl (fun z hz => ih z (by simp [hz])) m (fun z hz => hl z (by simp [hz])) (fun z hz => hm z (by simp [hz])) r r' i2
      exact ⟨by rw [i1, j1], j2⟩
theorem w_uni (n m : N) (hn : n.form = true) (hm : m.form = true) (r r' : Bs) (hr : Stop (· == 60) r) (hr' : Stop (· == 60) r') (h : n.w ++ r = m.w ++ r') : n = m ∧ r = r' := by
  obtain ⟨c, t, a1, a2, a3, a4, a5⟩ := w_first hn
  obtain ⟨c', t', b1, b2, b3, b4, b5⟩ := w_first hm
  have hcc : c = c' := by
    rw [a1, b1] at h
    simp only [List.cons_append, List.cons.injEq] at h
    exact h.1
  by_cases h1 : n.kind = textK <;> by_cases h2 : m.kind = textK
  · rw [N.w_eq, if_pos h1, N.w_eq, if_pos h2] at h
    simp only [List.append_assoc] at h
    obtain ⟨i1, i2⟩ := quote_uni _ _ trivial trivial _ _ trivial trivial h
    obtain ⟨p1, p2, p3⟩ := form_text hn h1
    obtain ⟨q1, q2, q3⟩ := form_text hm h2
    obtain ⟨j1, j2⟩ := headT_uni _ _ p1 q1 r r' hr hr' i2
    exact ⟨N.ext (h1.trans h2.symm) (bsExt i1) j1 (p2.trans q2.symm) (p3.trans q3.symm), j2⟩
  · have := b5 h2
    rw [← hcc, a4 h1] at this
    exact absurd this (by decide)
  · have := a5 h1
    rw [hcc, b4 h2] at this
    exact absurd this (by decide)
  · rw [N.w_eq, if_neg h1, N.w_eq, if_neg h2] at h
    simp only [List.append_assoc, List.cons_append, List.nil_append] at h
    obtain ⟨p1, p2, p3, p4, p5⟩ := form_kind hn h1
    obtain ⟨q1, q2, q3, q4, q5⟩ := form_kind hm h2
    obtain ⟨i1, i2⟩ := name_uni _ _ p1 q1 _ _ (headA_low _ _) (headA_low _ _) h
    obtain ⟨j1, j2⟩ := headA_uni _ _ p4 q4 _ _ i2
    obtain ⟨k1, k2⟩ := kids_uni (fun x hx y hy r r' => w_uni x y (p5 x hx) hy r r') m.kids p5 q5 r r' j2
    exact ⟨N.ext i1 (p2.trans q2.symm) (p3.trans q3.symm) j1 k1, k2⟩
termination_by SizeOf.sizeOf n
decreasing_by exact N.kids_lt hx
end Go.Proofs.D
