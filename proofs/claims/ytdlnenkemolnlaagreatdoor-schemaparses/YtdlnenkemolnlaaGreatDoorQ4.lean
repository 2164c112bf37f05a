/-
  COMPLEMENTS, and how they are written: what is written is read in one way alone; how heavy they are.
-/
import Derived.Test.YtdlnenkemolnlaaGreatDoorP1
import Derived.Lib.RuneCount
set_option linter.unusedVariables false
set_option linter.unusedSimpArgs false
namespace Go.Proofs.D
open Go Go.Abs
noncomputable instance : DecidableEq N := fun a b => Classical.propDecidable _
/-- An entry. -/
structure Ent where
  has : Bool
  value : ByteArray
  rest : List N
theorem Ent.ext' {a b : Ent} (h1 : a.has = b.has) (h2 : a.value = b.value) (h3 : a.rest = b.rest) : a = b := by
  obtain ⟨⟩ := a
  obtain ⟨⟩ := b
  simp only at h1 h2 h3
  subst h1 h2 h3
  rfl
noncomputable instance : DecidableEq Ent := fun a b => Classical.propDecidable _
/-- A node, of some kids. -/
def xOf (l : List N) : N := .mk ⟨#[120]⟩ ⟨#[]⟩ [] [] l
/-- How deep, how large. -/
def N.deep : N → Int
  | .mk k t m a kids => if k = textK then 0 else wr .i64 (go kids 0 + 1)
where go : List N → Int → Int
  | [], d => d
  | x :: l, d => go l (if d < x.deep then x.deep else d)
theorem N.deep_eq (n : N) : n.deep = if n.kind = textK then 0 else wr .i64 (N.deep.go n.kids 0 + 1) := by
  obtain ⟨⟩ := n
  simp only [N.deep]
  rfl
def N.size : N → Int
  | .mk k t m a kids => if k = textK then Lib.runeCount t else wr .i64 (2 + go kids 0)
where go : List N → Int → Int
  | [], d => d
  | x :: l, d => go l (wr .i64 (d + x.size))
theorem N.size_eq (n : N) : n.size = if n.kind = textK then (Lib.runeCount n.text : Int) else wr .i64 (2 + N.size.go n.kids 0) := by
  obtain ⟨⟩ := n
  simp only [N.size]
  rfl
def N.check (n : N) : Int := if n.form = false then 2 else if 40 < n.deep then 4 else if 4000 < n.size then 5 else 0
theorem check_form {n : N} (h : n.check = 0) : n.form = true := by
  unfold N.check at h
  cases hf : n.form with
  | true => rfl
  | false => rw [hf] at h; simp at h
/-- Is an entry right, and how is it written? -/
def Ent.none (e : Ent) : Bool := decide (e.value = ⟨#[]⟩) && decide (e.rest.length = 0)
def Ent.ok (e : Ent) : Bool := if e.has = true then Go.Proofs.D.value e.value && decide ((xOf e.rest).check = 0) else e.none
def Ent.w (e : Ent) : Bs := if e.has = true then 61 :: (quoteB e.value.data.toList ++ (if N.w.go e.rest = [] then [] else 91 :: (N.w.go e.rest ++ [93]))) else [45]
theorem x_form {l : List N} (h : (xOf l).form = true) : ∀ x ∈ l, x.form = true := by
  have hk : ¬ (xOf l).kind = textK := by
    intro e
    have h1 : (xOf l).kind = ⟨#[120]⟩ := rfl
    rw [h1] at e
    have := congrArg ByteArray.size e
    exact absurd this (by decide)
  exact (form_kind h hk).2.2.2.2
theorem go_nil {l : List N} (h : ∀ x ∈ l, x.form = true) : N.w.go l = [] ↔ l = [] := by
  constructor
  · intro e
    cases l with
    | nil => rfl
    | cons x l =>
      obtain ⟨c, t, h1, _⟩ := w_first (h x (by simp))
      simp [N.w.go, h1] at e
  · intro e; subst e; rfl
theorem ent_uni : Uni Ent.w (fun e => e.ok = true) (Stop (· == 91)) := fun a b ha hb r r' hr hr' h => by
  unfold Ent.w at h
  unfold Ent.ok Ent.none at ha hb
  cases h1 : a.has <;> cases h2 : b.has
  · simp [h1] at ha
    simp [h2] at hb
    simp [h1, h2] at h
    exact ⟨Ent.ext' (h1.trans h2.symm) (ha.1.trans hb.1.symm) (ha.2.trans hb.2.symm), h⟩
  · simp [h1, h2] at h
  · simp [h1, h2] at h
  · simp only [h1, h2, if_true, Bool.and_eq_true, decide_eq_true_eq] at h ha hb
    simp only [List.cons_append, List.append_assoc, List.cons.injEq, true_and] at h
    obtain ⟨i1, i2⟩ := quote_uni _ _ trivial trivial _ _ trivial trivial h
    have f1 := x_form (check_form ha.2)
    have f2 := x_form (check_form hb.2)
    have g1 := go_nil f1
    have g2 := go_nil f2
    by_cases e1 : a.rest = [] <;> by_cases e2 : b.rest = []
    · rw [if_pos (g1.2 e1), if_pos (g2.2 e2)] at i2
      exact ⟨Ent.ext' (h1.trans h2.symm) (bsExt i1) (e1.trans e2.symm), by simpa using i2⟩
    · rw [if_pos (g1.2 e1), if_neg (fun h => e2 (g2.1 h))] at i2
      simp only [List.nil_append, List.cons_append] at i2
      have := hr 91 (by rw [i2]; rfl)
      simp at this
    · rw [if_neg (fun h => e1 (g1.1 h)), if_pos (g2.2 e2)] at i2
      simp only [List.nil_append, List.cons_append] at i2
      have := hr' 91 (by rw [← i2]; rfl)
      simp at this
    · rw [if_neg (fun h => e1 (g1.1 h)), if_neg (fun h => e2 (g2.1 h))] at i2
      simp only [List.cons_append, List.append_assoc, List.nil_append, List.cons.injEq, true_and] at i2
      obtain ⟨j1, j2⟩ := kids_uni (fun x hx y hy r r' hr hr' h => w_uni x y (f1 x hx) hy r r' hr hr' h) b.rest f1 f2 r r' i2
      exact ⟨Ent.ext' (h1.trans h2.symm) (bsExt i1) j1, j2⟩
theorem ent_first (e : Ent) : ∃ c t, e.w = c :: t ∧ c ≠ 10 := by
  unfold Ent.w
  split
  · exact ⟨61, _, rfl, by decide⟩
  · exact ⟨45, _, rfl, by decide⟩
def lineB (l : List Ent) : Bs := sepBy 32 (l.map Ent.w) ++ [10]
theorem line_uni (l m : List Ent) (hl : ∀ e ∈ l, e.ok = true) (hm : ∀ e ∈ m, e.ok = true) (r r' : Bs) (h : lineB l ++ r = lineB m ++ r') : l = m ∧ r = r' := by
  simp only [lineB, List.append_assoc, List.cons_append, List.nil_append] at h
  by_cases h1 : l = [] <;> by_cases h2 : m = []
  · subst h1 h2
    simpa [sepBy] using h
  · obtain ⟨y, m, rfl⟩ := List.exists_cons_of_ne_nil h2
    obtain ⟨c, t, q1, q2⟩ := ent_first y
    subst h1
    simp [sepBy, q1] at h
    exact absurd h.1.symm q2
  · obtain ⟨y, m', rfl⟩ := List.exists_cons_of_ne_nil h1
    obtain ⟨c, t, q1, q2⟩ := ent_first y
    subst h2
    simp [sepBy, q1] at h
    exact absurd h.1 q2
  · obtain ⟨i1, i2⟩ := sepBy_uni ent_uni 32 (fun _ => stop_cons (by decide)) l m hl hm h1 h2 _ _ (stop_cons (by decide)) (stop_cons (by decide)) (stop_cons (by decide)) (stop_cons (by decide)) h
    simp at i2
    exact ⟨i1, i2⟩
abbrev Cm := List (List Ent)
def compB : Cm → Bs
  | [] => []
  | l :: c => lineB l ++ compB c
def okC (c : Cm) : Bool := c.all fun l => l.all Ent.ok
theorem comp_uni : ∀ (a b : Cm), okC a = true → okC b = true → compB a = compB b → a = b
  | [], [], _, _, _ => rfl
  | [], m :: b, _, _, h => by simp [compB, lineB] at h
  | l :: a, [], _, _, h => by simp [compB, lineB] at h
  | l :: a, m :: b, ha, hb, h => by
    simp only [okC, List.all_cons, Bool.and_eq_true, List.all_eq_true] at ha hb
    obtain ⟨i1, i2⟩ := line_uni l m ha.1 hb.1 _ _ h
    rw [i1, comp_uni a b (by simp only [okC, List.all_eq_true]; exact ha.2) (by simp only [okC, List.all_eq_true]; exact hb.2) i2]
/-! ### how heavy -/
def names1 (l : List ByteArray) : Nat := (l.map fun s => 1 + s.size).sum
def attrs1 (l : List (ByteArray × ByteArray)) : Nat := (l.map fun p => 1 + p.1.size + p.2.size).sum
def N.wt : N → Nat
  | .mk k t m a kids => 1 + k.size + t.size + names1 m + attrs1 a + go kids
where go : List N → Nat
  | [] => 0
  | x :: l => x.wt + go l
theorem N.wt_eq (n : N) : n.wt = 1 + n.kind.size + n.text.size + names1 n.marks + attrs1 n.attrs + N.wt.go n.kids := by
  obtain ⟨⟩ := n
  simp only [N.wt]
  rfl
theorem wt_kid {l : List N} {x : N} (h : x ∈ l) : x.wt ≤ N.wt.go l := by
  induction l with
  | nil => cases h
  | cons y l ih =>
    simp only [N.wt.go]
    rcases List.mem_cons.1 h with rfl | h
    · omega
    · have := ih h; omega
theorem wt_pos (n : N) : 1 ≤ n.wt := by rw [N.wt_eq]; omega
theorem go_len_wt (l : List N) : l.length ≤ N.wt.go l := by
  induction l with
  | nil => simp
  | cons x l ih => have := wt_pos x; simp only [N.wt.go, List.length_cons]; omega
theorem mem_names1 {l : List ByteArray} {s : ByteArray} (h : s ∈ l) : 1 + s.size ≤ names1 l := by
  induction l with
  | nil => cases h
  | cons x l ih =>
    simp only [names1, List.map_cons, List.sum_cons] at ih ⊢
    rcases List.mem_cons.1 h with rfl | h
    · omega
    · have := ih h; omega
theorem mem_attrs1 {l : List (ByteArray × ByteArray)} {s : ByteArray × ByteArray} (h : s ∈ l) : 1 + s.1.size + s.2.size ≤ attrs1 l := by
  induction l with
  | nil => cases h
  | cons x l ih =>
    simp only [attrs1, List.map_cons, List.sum_cons] at ih ⊢
    rcases List.mem_cons.1 h with rfl | h
    · omega
    · have := ih h; omega
theorem names1_len (l : List ByteArray) : l.length ≤ names1 l := by
  induction l with
  | nil => simp
  | cons x l ih => simp only [names1, List.map_cons, List.sum_cons, List.length_cons] at ih ⊢; omega
theorem attrs1_len (l : List (ByteArray × ByteArray)) : l.length ≤ attrs1 l := by
  induction l with
  | nil => simp
  | cons x l ih => simp only [attrs1, List.map_cons, List.sum_cons, List.length_cons] at ih ⊢; omega
theorem esc_len (l : Bs) : (esc l).length ≤ 2 * l.length := by
  induction l with
  | nil => simp [esc]
  | cons c l ih =>
    simp only [esc]
    split <;> simp <;> omega
theorem quote_len (l : Bs) : (quoteB l).length ≤ 2 * l.length + 2 := by
  have := esc_len l
  simp [quoteB]
  omega
theorem bsz (s : ByteArray) : s.data.toList.length = s.size := Array.length_toList
theorem sepTail_len (s : UInt8) (l : List Bs) : (sepTail s l).length = (l.map fun x => 1 + x.length).sum := by
  induction l with
  | nil => rfl
  | cons x l ih =>
    simp only [sepTail, List.flatMap_cons, List.length_append, List.length_cons, List.map_cons, List.sum_cons] at ih ⊢
    omega
theorem sepBy_len (s : UInt8) (l : List Bs) : (sepBy s l).length ≤ (l.map fun x => 1 + x.length).sum := by
  cases l with
  | nil => simp [sepBy]
  | cons x l =>
    simp only [sepBy, List.length_append, sepTail_len, List.map_cons, List.sum_cons]
    omega
theorem headT_len (m : List ByteArray) : (headT m).length ≤ 2 + names1 m := by
  unfold headT
  split
  · simp
  · have := sepBy_len 44 (m.map (·.data.toList))
    have e : ((m.map (·.data.toList)).map fun x => 1 + x.length) = m.map fun s => 1 + s.size := by
      rw [List.map_map]; rfl
    rw [e] at this
    simp only [List.length_cons, List.length_append, List.length_nil, names1]
    omega
theorem attrs_sum (a : List (ByteArray × ByteArray)) : ((a.map attrB).map fun x => 1 + x.length).sum ≤ 4 * attrs1 a := by
  induction a with
  | nil => simp
  | cons p a ih =>
    simp only [List.map_cons, List.sum_cons, attrs1] at ih ⊢
    have h1 := quote_len p.2.data.toList
    rw [bsz] at h1
    have h2 : (attrB p).length = p.1.size + 1 + (quoteB p.2.data.toList).length := by
      simp only [attrB, List.length_append, List.length_cons, bsz]; omega
    omega
theorem headA_len (a : List (ByteArray × ByteArray)) : (headA a).length ≤ 2 + 4 * attrs1 a := by
  unfold headA
  split
  · simp
  · have := sepBy_len 32 (a.map attrB)
    have h2 := attrs_sum a
    simp only [List.length_cons, List.length_append, List.length_nil]
    omega
theorem w_len (n : N) : n.w.length ≤ 4 * n.wt := by
  have hk : (N.w.go n.kids).length ≤ 4 * N.wt.go n.kids := by
    have : ∀ l : List N, (∀ x ∈ l, x.w.length ≤ 4 * x.wt) → (N.w.go l).length ≤ 4 * N.wt.go l := by
      intro l
      induction l with
      | nil => intro _; simp [N.w.go]
      | cons x l ih =>
        intro h
        have h1 := h x (by simp)
        have h2 := ih fun y hy => h y (by simp [hy])
        simp only [N.w.go, N.wt.go, List.length_append]
        omega
    exact this n.kids fun x hx => w_len x
  rw [N.w_eq, N.wt_eq]
  split
  · have h1 := quote_len n.text.data.toList
    have h2 := headT_len n.marks
    rw [bsz] at h1
    simp only [List.length_append]
    omega
  · have h2 := headA_len n.attrs
    simp only [List.length_append, List.length_cons, List.length_nil, bsz]
    omega
termination_by SizeOf.sizeOf n
decreasing_by exact N.kids_lt hx
theorem go_len4 : ∀ l : List N, (N.w.go l).length ≤ 4 * N.wt.go l
  | [] => by simp [N.w.go]
  | x :: l => by
    have h1 := w_len x
    have h2 := go_len4 l
    simp only [N.w.go, N.wt.go, List.length_append]
    omega
def Ent.wt (e : Ent) : Nat := 1 + e.value.size + N.wt.go e.rest
def slotWt (l : List Ent) : Nat := 1 + (l.map Ent.wt).sum
def compWt (c : Cm) : Nat := (c.map slotWt).sum
end Go.Proofs.D
/-
  NODES, as they are read.
-/
set_option linter.unusedVariables false
set_option linter.unusedSimpArgs false
namespace Go.Proofs.D
open Go Go.Abs
def bytesOf (l : Bs) : ByteArray := ⟨l.toArray⟩
/-- What is left, and whether it went wrong. -/
abbrev Rs := Bs × Bool
def takesB (c : UInt8) : Bs → Bool × Bs
  | [] => (false, [])
  | x :: l => if x = c then (true, l) else (false, x :: l)
def wantB (c : UInt8) (st : Rs) : Rs := ((takesB c st.1).2, !(takesB c st.1).1 || st.2)
def nameB (l : Bs) : Bs × Bs := (l.takeWhile low8, l.dropWhile low8)
def quotedGo : Bs → Bs → Option (Bs × Bs)
  | [], _ => none
  | [c], s => if c = 34 then some (s, []) else none
  | c :: d :: l, s => if c = 34 then some (s, d :: l) else if c = 92 then quotedGo l (s ++ [d]) else quotedGo (d :: l) (s ++ [c])
def quotedB (st : Rs) : Bs × Rs :=
  if (wantB 34 st).2 = true then ([], ((wantB 34 st).1, true)) else match quotedGo (wantB 34 st).1 [] with
    | some (s, r) => (s, (r, false))
    | none => ([], ((wantB 34 st).1, true))
theorem takes_le (c : UInt8) (l : Bs) : (takesB c l).2.length ≤ l.length ∧ ((takesB c l).1 = true → (takesB c l).2.length + 1 = l.length) := by
  cases l with
  | nil => simp [takesB]
  | cons x l =>
    simp only [takesB]
    split <;> simp
theorem name_le (l : Bs) : (nameB l).1.length + (nameB l).2.length = l.length := by
  have := List.takeWhile_append_dropWhile (p := low8) (l := l)
  simp only [nameB]
  rw [← List.length_append, this]
theorem quotedGo_le : ∀ (l s : Bs) (r : Bs × Bs), quotedGo l s = some r → r.1.length + r.2.length + 1 ≤ s.length + l.length
  | [], s, r, h => by simp [quotedGo] at h
  | [c], s, r, h => by
    simp only [quotedGo] at h
    split at h
    · cases h; simp
    · cases h
  | c :: d :: l, s, r, h => by
    simp only [quotedGo] at h
    split at h
    · cases h; simp; omega
    · split at h
      · have := quotedGo_le l (s ++ [d]) r h
        simp at this ⊢; omega
      · have := quotedGo_le (d :: l) (s ++ [c]) r h
        simp at this ⊢; omega
theorem want_le (c : UInt8) (st : Rs) : (wantB c st).1.length ≤ st.1.length ∧ ((wantB c st).2 = false → st.2 = false ∧ (wantB c st).1.length + 1 = st.1.length) := by
  obtain ⟨h1, h2⟩ := takes_le c st.1
  refine ⟨h1, fun h => ?_⟩
  simp only [wantB, Bool.or_eq_false_iff, Bool.not_eq_false'] at h
  exact ⟨h.2, h2 h.1⟩
theorem quoted_le (st : Rs) : (quotedB st).1.length + (quotedB st).2.1.length ≤ st.1.length ∧ ((quotedB st).2.2 = false → st.2 = false ∧ (quotedB st).1.length + (quotedB st).2.1.length + 2 ≤ st.1.length) := by
  obtain ⟨h1, h2⟩ := want_le 34 st
  unfold quotedB
  cases hb : (wantB 34 st).2 with
  | true => simp; exact h1
  | false =>
    obtain ⟨h3, h4⟩ := h2 hb
    simp only [Bool.false_eq_true, if_false]
    cases hq : quotedGo (wantB 34 st).1 [] with
    | none => simp; exact h1
    | some r =>
      obtain ⟨s, r⟩ := r
      have := quotedGo_le _ _ _ hq
      simp at this ⊢
      exact ⟨by omega, h3, by omega⟩
def marksGo (l : Bs) : List Bs × Bs :=
  if h : (takesB 44 (nameB l).2).1 = true then ((nameB l).1 :: (marksGo (takesB 44 (nameB l).2).2).1, (marksGo (takesB 44 (nameB l).2).2).2)
  else ([(nameB l).1], (takesB 44 (nameB l).2).2)
termination_by l.length
decreasing_by all_goals (have h1 := (takes_le 44 (nameB l).2).2 h; have h2 := name_le l; omega)
def textB (st : Rs) : N × Rs :=
  if (takesB 60 (quotedB st).2.1).1 = true then
    (.mk textK (bytesOf (quotedB st).1) ((marksGo (takesB 60 (quotedB st).2.1).2).1.map bytesOf) [] [], wantB 62 ((marksGo (takesB 60 (quotedB st).2.1).2).2, (quotedB st).2.2))
  else (.mk textK (bytesOf (quotedB st).1) [] [] [], (quotedB st).2)
/-- An attribute; what is left. -/
def attrB1 (l : Bs) : (Bs × Bs) × Rs := (((nameB l).1, (quotedB (wantB 61 ((nameB l).2, false))).1), (quotedB (wantB 61 ((nameB l).2, false))).2)
theorem attr1_le (l : Bs) : (attrB1 l).1.1.length + (attrB1 l).1.2.length + (attrB1 l).2.1.length ≤ l.length := by
  have h1 := name_le l
  have h2 := (want_le 61 ((nameB l).2, false)).1
  have h3 := (quoted_le (wantB 61 ((nameB l).2, false))).1
  simp only [attrB1] at *
  omega
def attrsGo (st : Rs) : List (Bs × Bs) × Rs :=
  if st.2 = true then ([], st) else
  if h : (takesB 32 (attrB1 st.1).2.1).1 = true then ((attrB1 st.1).1 :: (attrsGo ((takesB 32 (attrB1 st.1).2.1).2, (attrB1 st.1).2.2)).1, (attrsGo ((takesB 32 (attrB1 st.1).2.1).2, (attrB1 st.1).2.2)).2)
  else ([(attrB1 st.1).1], ((takesB 32 (attrB1 st.1).2.1).2, (attrB1 st.1).2.2))
termination_by st.1.length
decreasing_by all_goals (have h1 := (takes_le 32 (attrB1 st.1).2.1).2 h; have h2 := attr1_le st.1; omega)
def pairB (p : Bs × Bs) : ByteArray × ByteArray := (bytesOf p.1, bytesOf p.2)
/-- No kid comes. -/
def stopK (st : Rs) : Bool := st.2 || (match st.1 with | [] => true | c :: _ => decide (c = 93))
def kidsF (f : Rs → N × Rs) : Nat → Rs → List N × Rs
  | 0, st => ([], st)
  | j + 1, st => if stopK st = true then ([], st) else ((f st).1 :: (kidsF f j (f st).2).1, (kidsF f j (f st).2).2)
/-- The attributes that come, if any. -/
def attrsB (st : Rs) : List (Bs × Bs) × Rs :=
  if (takesB 40 st.1).1 = true then ((attrsGo ((takesB 40 st.1).2, st.2)).1, wantB 41 (attrsGo ((takesB 40 st.1).2, st.2)).2) else ([], ((takesB 40 st.1).2, st.2))
def quoteNext (l : Bs) : Bool := match l with | [] => false | c :: _ => decide (c = 34)
def nodeF : Nat → Rs → N × Rs
  | 0, st => (.mk ⟨#[]⟩ ⟨#[]⟩ [] [] [], st)
  | k + 1, st => if quoteNext st.1 = true then textB st else
      (.mk (bytesOf (nameB st.1).1) ⟨#[]⟩ [] ((attrsB ((nameB st.1).2, st.2)).1.map pairB) (kidsF (nodeF k) ((wantB 91 (attrsB ((nameB st.1).2, st.2)).2).1.length + 1) (wantB 91 (attrsB ((nameB st.1).2, st.2)).2)).1,
        wantB 93 (kidsF (nodeF k) ((wantB 91 (attrsB ((nameB st.1).2, st.2)).2).1.length + 1) (wantB 91 (attrsB ((nameB st.1).2, st.2)).2)).2)
/-! ### how much is read -/
theorem marks_le : ∀ (n : Nat) (l : Bs), l.length ≤ n → names1 ((marksGo l).1.map bytesOf) + (marksGo l).2.length ≤ l.length + 1
  | n, l, hn => by
    have h1 := name_le l
    have h2 := takes_le 44 (nameB l).2
    have hs : (bytesOf (nameB l).1).size = (nameB l).1.length := rfl
    rw [marksGo]
    split
    · rename_i h
      have h3 := h2.2 h
      have h4 := marks_le (n - 1) (takesB 44 (nameB l).2).2 (by omega)
      simp only [names1, List.map_cons, List.sum_cons] at h4 ⊢
      omega
    · simp only [names1, List.map_cons, List.map_nil, List.sum_cons, List.sum_nil]
      omega
termination_by n l => l.length
theorem attrs_le : ∀ (n : Nat) (st : Rs), st.1.length ≤ n → attrs1 ((attrsGo st).1.map pairB) + (attrsGo st).2.1.length ≤ st.1.length + 1
  | n, st, hn => by
    have h1 := attr1_le st.1
    have h2 := takes_le 32 (attrB1 st.1).2.1
    have hs1 : (pairB (attrB1 st.1).1).1.size = (attrB1 st.1).1.1.length := rfl
    have hs2 : (pairB (attrB1 st.1).1).2.size = (attrB1 st.1).1.2.length := rfl
    rw [attrsGo]
    split
    · simp [attrs1]
    · split
      · rename_i h
        have h3 := h2.2 h
        have h4 := attrs_le (n - 1) ((takesB 32 (attrB1 st.1).2.1).2, (attrB1 st.1).2.2) (by dsimp only; omega)
        simp only [attrs1, List.map_cons, List.sum_cons] at h4 ⊢
        omega
      · simp only [attrs1, List.map_cons, List.map_nil, List.sum_cons, List.sum_nil]
        omega
termination_by n st => st.1.length
end Go.Proofs.D
/-
  NODES, as they are read: how heavy they are.
-/
set_option linter.unusedVariables false
set_option linter.unusedSimpArgs false
namespace Go.Proofs.D
open Go Go.Abs
theorem bytesOf_size (l : Bs) : (bytesOf l).size = l.length := rfl
def NodeLe (f : Rs → N × Rs) (m : Nat) : Prop := ∀ l : Bs, l.length < m → (f (l, false)).1.wt + 6 * (f (l, false)).2.1.length ≤ 6 * l.length + 6 ∧ ((f (l, false)).2.2 = false → (f (l, false)).1.wt + 6 * (f (l, false)).2.1.length ≤ 6 * l.length)
theorem kidsF_le {f : Rs → N × Rs} {m : Nat} (hf : NodeLe f m) : ∀ (j : Nat) (st : Rs), st.1.length < m → N.wt.go (kidsF f j st).1 + 6 * (kidsF f j st).2.1.length ≤ 6 * st.1.length + 6 ∧ ((kidsF f j st).2.2 = false → N.wt.go (kidsF f j st).1 + 6 * (kidsF f j st).2.1.length ≤ 6 * st.1.length ∧ st.2 = false) ∧ (st.2 = true → kidsF f j st = ([], st))
  | 0, st, hm => by
    simp only [kidsF, N.wt.go]
    exact ⟨by omega, fun h => ⟨by omega, h⟩, fun _ => trivial⟩
  | j + 1, st, hm => by
    simp only [kidsF]
    cases hs : stopK st with
    | true =>
      simp only [if_true, N.wt.go]
      exact ⟨by omega, fun h => ⟨by omega, h⟩, fun _ => trivial⟩
    | false =>
      have hb : st.2 = false := by
        simp only [stopK, Bool.or_eq_false_iff] at hs
        exact hs.1
      obtain ⟨l, b⟩ := st
      simp only at hb
      subst hb
      obtain ⟨h1, h2⟩ := hf l hm
      have hp := wt_pos (f (l, false)).1
      simp only [Bool.false_eq_true, if_false, N.wt.go]
      cases hfb : (f (l, false)).2.2 with
      | true =>
        by_cases hlt : (f (l, false)).2.1.length < m
        · obtain ⟨i1, i2, i3⟩ := kidsF_le hf j (f (l, false)).2 hlt
          rw [i3 hfb]
          simp only [N.wt.go]
          exact ⟨by omega, fun h => by rw [hfb] at h; (cases h), fun h => nomatch h⟩
        · simp only at hm; omega
      | false =>
        have h2' := h2 hfb
        simp only at hm
        obtain ⟨i1, i2, i3⟩ := kidsF_le hf j (f (l, false)).2 (by omega)
        refine ⟨by omega, fun h => ?_, fun h => nomatch h⟩
        obtain ⟨i4, _⟩ := i2 h
        exact ⟨by omega, trivial⟩
theorem text_le (l : Bs) : (textB (l, false)).1.wt + 6 * (textB (l, false)).2.1.length ≤ 6 * l.length + 6 ∧ ((textB (l, false)).2.2 = false → (textB (l, false)).1.wt + 6 * (textB (l, false)).2.1.length ≤ 6 * l.length) := by
  obtain ⟨h1, h2⟩ := quoted_le (l, false)
  obtain ⟨h3, h4⟩ := takes_le 60 (quotedB (l, false)).2.1
  have ht : textK.size = 4 := rfl
  simp only at h1 h2
  unfold textB
  split
  · rename_i hc
    have h5 := h4 hc
    have h6 := marks_le _ (takesB 60 (quotedB (l, false)).2.1).2 (Nat.le_refl _)
    obtain ⟨h7, h8⟩ := want_le 62 ((marksGo (takesB 60 (quotedB (l, false)).2.1).2).2, (quotedB (l, false)).2.2)
    simp only at h7 h8
    rw [N.wt_eq]
    simp only [N.kind, N.text, N.marks, N.attrs, N.kids, attrs1, List.map_nil, List.sum_nil, N.wt.go, bytesOf_size, ht]
    refine ⟨by omega, fun h => ?_⟩
    obtain ⟨h9, h10⟩ := h8 h
    obtain ⟨_, h11⟩ := h2 h9
    omega
  · rw [N.wt_eq]
    simp only [N.kind, N.text, N.marks, N.attrs, N.kids, attrs1, names1, List.map_nil, List.sum_nil, N.wt.go, bytesOf_size, ht]
    refine ⟨by omega, fun h => ?_⟩
    obtain ⟨_, h11⟩ := h2 h
    omega
theorem attrsB_le (st : Rs) : attrs1 ((attrsB st).1.map pairB) + (attrsB st).2.1.length ≤ st.1.length ∧ ((attrsB st).2.2 = false → st.2 = false) := by
  obtain ⟨h3, h4⟩ := takes_le 40 st.1
  unfold attrsB
  split
  · rename_i hc
    have h5 := h4 hc
    have h6 := attrs_le _ ((takesB 40 st.1).2, st.2) (Nat.le_refl _)
    obtain ⟨h7, h8⟩ := want_le 41 (attrsGo ((takesB 40 st.1).2, st.2)).2
    simp only at h6 ⊢
    refine ⟨by omega, fun h => ?_⟩
    have h9 := (h8 h).1
    cases hb : st.2 with
    | false => rfl
    | true =>
      rw [attrsGo] at h9
      simp [hb] at h9
  · simp only [List.map_nil, attrs1, List.sum_nil]
    exact ⟨by omega, fun h => h⟩
theorem node_le : ∀ (k : Nat), NodeLe (nodeF k) k
  | 0 => fun l h => absurd h (Nat.not_lt_zero _)
  | k + 1 => fun l hl => by
    simp only [nodeF]
    cases hq : quoteNext l with
    | true => simp only [if_true]; exact text_le l
    | false =>
      simp only [Bool.false_eq_true, if_false]
      have h1 := name_le l
      obtain ⟨h2, h2'⟩ := attrsB_le ((nameB l).2, false)
      simp only at h2
      obtain ⟨h3, h4⟩ := want_le 91 (attrsB ((nameB l).2, false)).2
      generalize hst : wantB 91 (attrsB ((nameB l).2, false)).2 = st3 at *
      obtain ⟨st2, hst2⟩ : ∃ st2, (attrsB ((nameB l).2, false)).2 = st2 := ⟨_, rfl⟩
      rw [hst2] at h2 h3 h4
      rw [N.wt_eq]
      simp only [N.kind, N.text, N.marks, N.attrs, N.kids, names1, List.map_nil, List.sum_nil, bytesOf_size]
      have h0 : (⟨#[]⟩ : ByteArray).size = 0 := rfl
      obtain ⟨h7, h8⟩ := want_le 93 (kidsF (nodeF k) (st3.1.length + 1) st3).2
      cases hb : st3.2 with
      | true =>
        have hk : kidsF (nodeF k) (st3.1.length + 1) st3 = ([], st3) := by
          simp only [kidsF]
          rw [if_pos (by simp [stopK, hb])]
        rw [hk] at h7 h8 ⊢
        simp only [N.wt.go] at h7 h8 ⊢
        refine ⟨by omega, fun h => ?_⟩
        have := (h8 h).1
        rw [hb] at this
        cases this
      | false =>
        obtain ⟨h5, h6⟩ := h4 hb
        obtain ⟨i1, i2, i3⟩ := kidsF_le (node_le k) (st3.1.length + 1) st3 (by omega)
        refine ⟨by omega, fun h => ?_⟩
        obtain ⟨i4, _⟩ := i2 (h8 h).1
        omega
theorem node_wt (l : Bs) : (nodeF (l.length + 1) (l, false)).1.wt ≤ 6 * l.length + 6 := by
  have := (node_le (l.length + 1) l (by omega)).1
  omega
end Go.Proofs.D
/-
  NODES: what is written is read as it was.
-/
set_option linter.unusedVariables false
set_option linter.unusedSimpArgs false
namespace Go.Proofs.D
open Go Go.Abs
theorem takes_hit (c : UInt8) (l : Bs) : takesB c (c :: l) = (true, l) := by simp [takesB]
theorem takes_miss {c : UInt8} {l : Bs} (h : Stop (· == c) l) : takesB c l = (false, l) := by
  cases l with
  | nil => rfl
  | cons x l =>
    have := h x rfl
    simp only [beq_eq_false_iff_ne] at this
    simp [takesB, this]
theorem want_hit (c : UInt8) (l : Bs) (b : Bool) : wantB c (c :: l, b) = (l, b) := by simp [wantB, takes_hit]
theorem name_app : ∀ (s r : Bs), (∀ c ∈ s, low8 c = true) → Stop low8 r → nameB (s ++ r) = (s, r)
  | [], [], _, _ => rfl
  | [], x :: r, _, hr => by
    have := hr x rfl
    simp [nameB, this]
  | x :: s, r, hs, hr => by
    have h1 := hs x (by simp)
    have ih := name_app s r (fun c hc => hs c (by simp [hc])) hr
    simp only [nameB, Prod.mk.injEq] at ih
    simp [nameB, h1, ih.1, ih.2]
theorem quotedGo_esc : ∀ (v r s : Bs), quotedGo (esc v ++ 34 :: r) s = some (s ++ v, r)
  | [], [], s => by simp [esc, quotedGo]
  | [], d :: r, s => by simp [esc, quotedGo]
  | c :: v, r, s => by
    have ih := fun s => quotedGo_esc v r s
    by_cases h : c = 92 ∨ c = 34
    · simp only [esc, if_pos h, List.cons_append]
      rw [quotedGo, if_neg (by decide), if_pos rfl, ih]
      simp
    · simp only [esc, if_neg h, List.cons_append]
      obtain ⟨d, l, hl⟩ : ∃ d l, esc v ++ 34 :: r = d :: l := by
        cases hev : esc v with
        | nil => exact ⟨34, r, rfl⟩
        | cons d l => exact ⟨d, _, rfl⟩
      rw [hl, quotedGo, if_neg (fun e => h (.inr e)), if_neg (fun e => h (.inl e)), ← hl, ih]
      simp
theorem quoted_app (v r : Bs) : quotedB (quoteB v ++ r, false) = (v, (r, false)) := by
  have h1 : wantB 34 (quoteB v ++ r, false) = (esc v ++ 34 :: r, false) := by
    simp only [quoteB, List.cons_append, List.append_assoc, List.nil_append]
    exact want_hit 34 _ _
  unfold quotedB
  rw [h1, quotedGo_esc]
  simp
theorem bytesOf_list (s : ByteArray) : bytesOf s.data.toList = s := bsExt (by simp [bytesOf])
theorem map_bytesOf (l : List ByteArray) : (l.map (·.data.toList)).map bytesOf = l := by
  rw [List.map_map]
  exact (List.map_congr_left (fun s _ => bytesOf_list s)).trans (List.map_id l)
theorem marks_app : ∀ (x : ByteArray) (l : List ByteArray) (r : Bs), isName x = true → (∀ s ∈ l, isName s = true) → marksGo (x.data.toList ++ sepTail 44 (l.map (·.data.toList)) ++ 62 :: r) = (x.data.toList :: l.map (·.data.toList), 62 :: r)
  | x, [], r, hx, hl => by
    have h1 : nameB (x.data.toList ++ 62 :: r) = (x.data.toList, 62 :: r) := name_app _ _ (name_low hx).2 (stop_cons (by decide))
    rw [marksGo]
    simp only [sepTail, List.map_nil, List.flatMap_nil, List.append_nil, h1]
    rw [takes_miss (stop_cons (by decide))]
    simp
  | x, y :: l, r, hx, hl => by
    have h1 : nameB (x.data.toList ++ 44 :: (y.data.toList ++ sepTail 44 (l.map (·.data.toList)) ++ 62 :: r)) = (x.data.toList, 44 :: (y.data.toList ++ sepTail 44 (l.map (·.data.toList)) ++ 62 :: r)) := name_app _ _ (name_low hx).2 (stop_cons (by decide))
    have ih := marks_app y l r (hl y (by simp)) (fun s hs => hl s (by simp [hs]))
    have e : x.data.toList ++ sepTail 44 ((y :: l).map (·.data.toList)) ++ 62 :: r = x.data.toList ++ 44 :: (y.data.toList ++ sepTail 44 (l.map (·.data.toList)) ++ 62 :: r) := by
      simp [sepTail]
    rw [e, marksGo]
    simp only [h1, takes_hit, dif_pos, ih]
    simp
def lists (p : ByteArray × ByteArray) : Bs × Bs := (p.1.data.toList, p.2.data.toList)
theorem attr_app (p : ByteArray × ByteArray) (r : Bs) (hp : isName p.1 = true) : attrB1 (attrB p ++ r) = (lists p, (r, false)) := by
  have e : attrB p ++ r = p.1.data.toList ++ 61 :: (quoteB p.2.data.toList ++ r) := by simp [attrB]
  have h1 : nameB (p.1.data.toList ++ 61 :: (quoteB p.2.data.toList ++ r)) = (p.1.data.toList, 61 :: (quoteB p.2.data.toList ++ r)) := name_app _ _ (name_low hp).2 (stop_cons (by decide))
  rw [e]
  simp only [attrB1, h1, want_hit, quoted_app, lists]
theorem attrs_app : ∀ (x : ByteArray × ByteArray) (l : List (ByteArray × ByteArray)) (r : Bs), isName x.1 = true → (∀ p ∈ l, isName p.1 = true) → attrsGo (attrB x ++ sepTail 32 (l.map attrB) ++ 41 :: r, false) = (lists x :: l.map lists, (41 :: r, false))
  | x, [], r, hx, hl => by
    rw [attrsGo]
    simp only [sepTail, List.map_nil, List.flatMap_nil, List.append_nil, attr_app x _ hx]
    rw [takes_miss (stop_cons (by decide))]
    simp
  | x, y :: l, r, hx, hl => by
    have ih := attrs_app y l r (hl y (by simp)) (fun s hs => hl s (by simp [hs]))
    have e : attrB x ++ sepTail 32 ((y :: l).map attrB) ++ 41 :: r = attrB x ++ 32 :: (attrB y ++ sepTail 32 (l.map attrB) ++ 41 :: r) := by simp [sepTail]
    rw [e, attrsGo]
    simp only [attr_app x _ hx, takes_hit, dif_pos, ih]
    simp
theorem pair_lists (l : List (ByteArray × ByteArray)) : (l.map lists).map pairB = l := by
  rw [List.map_map]
  refine (List.map_congr_left (fun p _ => ?_)).trans (List.map_id l)
  simp only [Function.comp, lists, pairB, bytesOf_list]
  rfl
theorem text_app (n : N) (r : Bs) (hn : n.form = true) (hk : n.kind = textK) (hr : Stop (· == 60) r) : textB (n.w ++ r, false) = (n, (r, false)) := by
  obtain ⟨p1, p2, p3⟩ := form_text hn hk
  rw [N.w_eq, if_pos hk, List.append_assoc]
  unfold textB
  simp only [quoted_app]
  by_cases hm : n.marks = []
  · have h1 : headT n.marks ++ r = r := by simp [headT, hm]
    rw [h1, takes_miss hr]
    simp only [Bool.false_eq_true, if_false, Prod.mk.injEq, and_true]
    exact N.ext hk.symm (bytesOf_list _) hm.symm p2.symm p3.symm
  · obtain ⟨x, l, hl⟩ := List.exists_cons_of_ne_nil hm
    have h1 : headT n.marks ++ r = 60 :: (x.data.toList ++ sepTail 44 (l.map (·.data.toList)) ++ 62 :: r) := by
      simp [headT, hm, hl, sepBy]
    rw [h1, takes_hit, marks_app x l r (p1 x (by rw [hl]; simp)) (fun s hs => p1 s (by rw [hl]; simp [hs]))]
    simp only [if_true, want_hit, Prod.mk.injEq, and_true]
    refine N.ext hk.symm (bytesOf_list _) ?_ p2.symm p3.symm
    have := map_bytesOf (x :: l)
    simp only [List.map_cons] at this
    simp only [N.marks, List.map_cons, this]
    exact hl.symm
theorem go_lens : ∀ l : List N, (∀ x ∈ l, x.form = true) → l.length ≤ (N.w.go l).length
  | [], _ => by simp
  | x :: l, h => by
    obtain ⟨c, t, h1, _⟩ := w_first (h x (by simp))
    have := go_lens l fun y hy => h y (by simp [hy])
    simp only [N.w.go, h1, List.length_append, List.length_cons]
    omega
theorem kids_app {f : Rs → N × Rs} {m : Nat} : ∀ (l : List N) (j : Nat) (r : Bs), (∀ x ∈ l, x.form = true) → l.length < j → (N.w.go l ++ 93 :: r).length < m → (∀ x ∈ l, ∀ r, Stop (· == 60) r → (x.w ++ r).length < m → f (x.w ++ r, false) = (x, (r, false))) → kidsF f j (N.w.go l ++ 93 :: r, false) = (l, (93 :: r, false))
  | [], j + 1, r, _, _, _, _ => by simp [kidsF, N.w.go, stopK]
  | x :: l, j + 1, r, hl, hj, hm, hf => by
    obtain ⟨c, t, h1, h2, _⟩ := w_first (hl x (by simp))
    have hst : Stop (· == 60) (N.w.go l ++ 93 :: r) := by
      cases l with
      | nil => exact stop_cons (by decide)
      | cons y m =>
        obtain ⟨c, t, h1, _, h3, _⟩ := w_first (hl y (by simp))
        simp only [N.w.go, h1, List.cons_append]
        exact stop_cons (by simpa using h3)
    have hlen : (N.w.go (x :: l) ++ 93 :: r).length = (x.w ++ (N.w.go l ++ 93 :: r)).length := by simp [N.w.go]
    have ih := kids_app l j r (fun y hy => hl y (by simp [hy])) (by simp at hj; omega) (by rw [hlen, List.length_append] at hm; omega) (fun y hy => hf y (by simp [hy]))
    have hs : stopK (N.w.go (x :: l) ++ 93 :: r, false) = false := by simp [stopK, N.w.go, h1, h2]
    have e : N.w.go (x :: l) ++ 93 :: r = x.w ++ (N.w.go l ++ 93 :: r) := by simp [N.w.go]
    rw [kidsF, hs, e, hf x (by simp) _ hst (by rw [← hlen]; exact hm)]
    simp only [Bool.false_eq_true, if_false, ih]
theorem node_app : ∀ (k : Nat) (n : N) (r : Bs), n.form = true → Stop (· == 60) r → (n.w ++ r).length < k → nodeF k (n.w ++ r, false) = (n, (r, false))
  | k + 1, n, r, hn, hr, hlt => by
    obtain ⟨c, t, h1, h2, h3, h4, h5⟩ := w_first hn
    by_cases hk : n.kind = textK
    · have hq : quoteNext (n.w ++ r) = true := by simp [quoteNext, h1, h4 hk]
      simp only [nodeF, hq, if_true]
      exact text_app n r hn hk hr
    · have hc : c ≠ 34 := fun e => by have := h5 hk; rw [e] at this; exact absurd this (by decide)
      have hq : quoteNext (n.w ++ r) = false := by simp [quoteNext, h1, hc]
      obtain ⟨p1, p2, p3, p4, p5⟩ := form_kind hn hk
      have hw : n.w ++ r = n.kind.data.toList ++ (headA n.attrs ++ 91 :: (N.w.go n.kids ++ 93 :: r)) := by
        rw [N.w_eq, if_neg hk]; simp
      have hnm : nameB (n.w ++ r) = (n.kind.data.toList, headA n.attrs ++ 91 :: (N.w.go n.kids ++ 93 :: r)) := by
        rw [hw]; exact name_app _ _ (name_low p1).2 (headA_low _ _)
      have hat : attrsB (headA n.attrs ++ 91 :: (N.w.go n.kids ++ 93 :: r), false) = (n.attrs.map lists, (91 :: (N.w.go n.kids ++ 93 :: r), false)) := by
        unfold attrsB
        by_cases ha : n.attrs = []
        · have : headA n.attrs = [] := by simp [headA, ha]
          simp only [this, List.nil_append]
          rw [takes_miss (stop_cons (by decide))]
          simp [ha]
        · obtain ⟨x, l, hl⟩ := List.exists_cons_of_ne_nil ha
          have : headA n.attrs ++ 91 :: (N.w.go n.kids ++ 93 :: r) = 40 :: (attrB x ++ sepTail 32 (l.map attrB) ++ 41 :: (91 :: (N.w.go n.kids ++ 93 :: r))) := by
            simp [headA, ha, hl, sepBy]
          rw [this]
          simp only [takes_hit, attrs_app x l _ (p4 x (by rw [hl]; simp)) (fun s hs => p4 s (by rw [hl]; simp [hs])), if_true, want_hit]
          rw [hl, List.map_cons]
      have hlen := congrArg List.length hw
      have hkl : n.kind.data.toList ≠ [] := (name_low p1).1
      have hkl' : 0 < n.kind.data.toList.length := List.length_pos_iff.2 hkl
      have hkids := kids_app (f := nodeF k) n.kids ((N.w.go n.kids ++ 93 :: r).length + 1) r p5 (by have := go_lens n.kids p5; simp; omega) (m := k) (by rw [hlen] at hlt; simp only [List.length_append, List.length_cons] at hlt ⊢; omega) (fun x hx r' hr' hl' => node_app k x r' (p5 x hx) hr' hl')
      · simp only [nodeF, hq, Bool.false_eq_true, if_false, hnm, hat, want_hit, hkids, Prod.mk.injEq, and_true]
        refine N.ext (bytesOf_list _) p2.symm p3.symm (pair_lists _) rfl
end Go.Proofs.D
/-
  COMPLEMENTS, as they are read: where a quoted text, or a bracket, ends.
-/
set_option linter.unusedVariables false
set_option linter.unusedSimpArgs false
namespace Go.Proofs.D
open Go Go.Abs
/-- One sign of those that are not passed over: how many brackets are open, whether within a text; none: go on at once. -/
def stepS (o : Int) (q : Bool) (c : UInt8) : Option (Int × Bool) :=
  if c = 34 then some (o, !q) else if q = true then none else if c = 91 then some (o + 1, q) else if c = 93 then some (o - 1, q) else some (o, q)
def endGo : Int → Bool → Bool → Nat → Bs → Nat
  | _, _, _, _, [] => 0
  | o, q, true, i, _ :: l => endGo o q false (i + 1) l
  | o, q, false, i, c :: l => if q = true ∧ c = 92 then endGo o q true (i + 1) l else match stepS o q c with
    | none => endGo o q false (i + 1) l
    | some (o', q') => if o' = 0 ∧ q' = false then i + 1 else endGo o' q' false (i + 1) l
def endB (l : Bs) : Nat := endGo 0 false false 0 l
theorem endGo_le : ∀ (l : Bs) (o : Int) (q sk : Bool) (i : Nat), endGo o q sk i l ≤ i + l.length
  | [], _, _, sk, i => by cases sk <;> simp [endGo]
  | c :: l, o, q, true, i => by
    have := endGo_le l o q false (i + 1)
    simp only [endGo, List.length_cons]; omega
  | c :: l, o, q, false, i => by
    simp only [endGo, List.length_cons]
    split
    · have := endGo_le l o q true (i + 1); omega
    · split
      · have := endGo_le l o q false (i + 1); omega
      · rename_i o' q' _
        split
        · omega
        · have := endGo_le l o' q' false (i + 1); omega
/-- Within a text, at brackets that are open: it goes on behind the text. -/
theorem end_esc : ∀ (v r : Bs) (o : Int) (i : Nat), endGo o true false i (esc v ++ 34 :: r) = if o = 0 then i + (esc v).length + 1 else endGo o false false (i + (esc v).length + 1) r
  | [], r, o, i => by
    simp only [esc, List.nil_append, endGo, List.length_nil, Nat.add_zero]
    simp [stepS]
  | c :: v, r, o, i => by
    by_cases h : c = 92 ∨ c = 34
    · simp only [esc, if_pos h, List.cons_append, endGo, and_self, if_true, end_esc v r o (i + 1 + 1), List.length_cons]
      rw [show i + 1 + 1 + (esc v).length = i + ((esc v).length + 1 + 1) by omega]
    · have h1 : ¬ c = 92 := fun e => h (.inl e)
      have h2 : ¬ c = 34 := fun e => h (.inr e)
      have he : esc (c :: v) = c :: esc v := by simp only [esc, if_neg h]
      rw [he]
      simp only [List.cons_append, endGo, h1, and_false, if_false, stepS, h2, if_true, end_esc v r o (i + 1), List.length_cons]
      rw [show i + 1 + (esc v).length = i + ((esc v).length + 1) by omega]
theorem end_quote (v r : Bs) (o : Int) (i : Nat) : endGo o false false i (quoteB v ++ r) = if o = 0 then i + (quoteB v).length else endGo o false false (i + (quoteB v).length) r := by
  have h := end_esc v r o (i + 1)
  simp only [quoteB, List.cons_append, List.append_assoc, List.nil_append, endGo, Bool.false_eq_true, false_and, if_false, stepS, if_true, Bool.not_false, and_false]
  rw [h]
  have e : (34 :: (esc v ++ [34])).length = (esc v).length + 2 := by simp
  rw [e, show i + ((esc v).length + 2) = i + 1 + (esc v).length + 1 by omega]
  rw [if_neg (by simp)]
/-- Signs that say nothing of texts or brackets. -/
def plainC (c : UInt8) : Bool := !(decide (c = 34)) && !(decide (c = 91)) && !(decide (c = 93))
theorem end_plain : ∀ (s r : Bs) (o : Int) (i : Nat), (∀ c ∈ s, plainC c = true) → o ≠ 0 → endGo o false false i (s ++ r) = endGo o false false (i + s.length) r
  | [], r, o, i, _, _ => by simp
  | c :: s, r, o, i, h, ho => by
    have hc := h c (by simp)
    simp only [plainC, Bool.and_eq_true, Bool.not_eq_true', decide_eq_false_iff_not] at hc
    have ih := end_plain s r o (i + 1) (fun d hd => h d (by simp [hd])) ho
    simp only [List.cons_append, endGo, Bool.false_eq_true, false_and, if_false, stepS, hc.1.1, hc.1.2, hc.2, ho, ih, List.length_cons]
    congr 1; omega
theorem low_plain {c : UInt8} (h : low8 c = true) : plainC c = true := by
  simp only [low8, Bool.and_eq_true, decide_eq_true_eq] at h
  simp only [plainC, Bool.and_eq_true, Bool.not_eq_true', decide_eq_false_iff_not]
  refine ⟨⟨?_, ?_⟩, ?_⟩ <;> (rintro rfl; exact absurd h (by decide))
theorem name_plain {s : ByteArray} (h : isName s = true) : ∀ c ∈ s.data.toList, plainC c = true := fun c hc => low_plain ((name_low h).2 c hc)
theorem headT_plain {m : List ByteArray} (h : ∀ s ∈ m, isName s = true) : ∀ c ∈ headT m, plainC c = true := by
  have ht : ∀ (l : List ByteArray), (∀ s ∈ l, isName s = true) → ∀ c ∈ sepTail 44 (l.map (·.data.toList)), plainC c = true := by
    intro l hl c hc
    simp only [sepTail, List.mem_flatMap, List.mem_map] at hc
    obtain ⟨x, ⟨s, hs, rfl⟩, hc⟩ := hc
    rcases List.mem_cons.1 hc with rfl | hc
    · decide
    · exact name_plain (hl s hs) c hc
  intro c hc
  unfold headT at hc
  split at hc
  · cases hc
  · cases m with
    | nil => simp [sepBy] at hc; rcases hc with rfl | rfl <;> decide
    | cons x l =>
      simp only [List.map_cons, sepBy, List.mem_cons, List.mem_append, List.mem_singleton] at hc
      rcases hc with rfl | (hc | hc) | hc
      · decide
      · exact name_plain (h x (by simp)) c hc
      · exact ht l (fun s hs => h s (by simp [hs])) c hc
      · rcases hc with rfl | hc
        · decide
        · cases hc
theorem end_attrT : ∀ (l : List (ByteArray × ByteArray)) (r : Bs) (o : Int) (i : Nat), (∀ p ∈ l, isName p.1 = true) → o ≠ 0 → endGo o false false i (sepTail 32 (l.map attrB) ++ r) = endGo o false false (i + (sepTail 32 (l.map attrB)).length) r
  | [], r, o, i, _, _ => by simp [sepTail]
  | p :: l, r, o, i, h, ho => by
    have ih := fun i => end_attrT l r o i (fun q hq => h q (by simp [hq])) ho
    have e : sepTail 32 ((p :: l).map attrB) ++ r = (32 :: p.1.data.toList ++ [61]) ++ (quoteB p.2.data.toList ++ (sepTail 32 (l.map attrB) ++ r)) := by simp [sepTail, attrB]
    have e2 : (sepTail 32 ((p :: l).map attrB)).length = (32 :: p.1.data.toList ++ [61]).length + ((quoteB p.2.data.toList).length + (sepTail 32 (l.map attrB)).length) := by simp [sepTail, attrB]; omega
    rw [e, end_plain _ _ o i (fun c hc => by
      simp only [List.cons_append, List.mem_cons, List.mem_append, List.mem_singleton] at hc
      rcases hc with rfl | hc | hc
      · decide
      · exact name_plain (h p (by simp)) c hc
      · rcases hc with rfl | hc
        · decide
        · cases hc) ho, end_quote, if_neg ho, ih, e2]
    congr 1; omega
theorem end_headA (a : List (ByteArray × ByteArray)) (r : Bs) (o : Int) (i : Nat) (h : ∀ p ∈ a, isName p.1 = true) (ho : o ≠ 0) : endGo o false false i (headA a ++ r) = endGo o false false (i + (headA a).length) r := by
  unfold headA
  split
  · simp
  · rename_i ha
    obtain ⟨p, l, rfl⟩ := List.exists_cons_of_ne_nil ha
    have hq := end_attrT l (41 :: r) o
    have e : 40 :: (sepBy 32 ((p :: l).map attrB) ++ [41]) ++ r = (40 :: p.1.data.toList ++ [61]) ++ (quoteB p.2.data.toList ++ (sepTail 32 (l.map attrB) ++ ([41] ++ r))) := by simp [sepBy, attrB]
    have e2 : (40 :: (sepBy 32 ((p :: l).map attrB) ++ [41])).length = (40 :: p.1.data.toList ++ [61]).length + ((quoteB p.2.data.toList).length + (sepTail 32 (l.map attrB)).length) + 1 := by simp [sepBy, attrB]; omega
    rw [e, end_plain _ _ o i (fun c hc => by
      simp only [List.cons_append, List.mem_cons, List.mem_append, List.mem_singleton] at hc
      rcases hc with rfl | hc | hc
      · decide
      · exact name_plain (h p (by simp)) c hc
      · rcases hc with rfl | hc
        · decide
        · cases hc) ho, end_quote, if_neg ho, end_attrT l ([41] ++ r) o _ (fun q hq => h q (by simp [hq])) ho, end_plain [41] r o _ (by decide) ho, e2]
    congr 1; simp; omega
theorem end_node (n : N) (r : Bs) (o : Int) (i : Nat) (hn : n.form = true) (ho : 0 < o) : endGo o false false i (n.w ++ r) = endGo o false false (i + n.w.length) r := by
  have ho' : o ≠ 0 := by omega
  by_cases hk : n.kind = textK
  · obtain ⟨p1, _, _⟩ := form_text hn hk
    rw [N.w_eq, if_pos hk, List.append_assoc, end_quote, if_neg ho', end_plain _ _ o _ (headT_plain p1) ho', List.length_append]
    congr 1; omega
  · obtain ⟨p1, p2, p3, p4, p5⟩ := form_kind hn hk
    have hgo : ∀ (l : List N), (∀ x ∈ l, x.form = true ∧ ∀ r (o : Int) i, 0 < o → endGo o false false i (x.w ++ r) = endGo o false false (i + x.w.length) r) → ∀ (r : Bs) (o : Int) (i : Nat), 0 < o → endGo o false false i (N.w.go l ++ r) = endGo o false false (i + (N.w.go l).length) r := by
      intro l
      induction l with
      | nil => intro _ r o i _; simp [N.w.go]
      | cons x l ih =>
        intro hl r o i ho
        simp only [N.w.go, List.append_assoc]
        rw [(hl x (by simp)).2 _ o i ho, ih (fun y hy => hl y (by simp [hy])) r o _ ho, List.length_append]
        congr 1; omega
    have e : n.w ++ r = n.kind.data.toList ++ (headA n.attrs ++ (91 :: (N.w.go n.kids ++ (93 :: r)))) := by rw [N.w_eq, if_neg hk]; simp
    have e2 : n.w.length = n.kind.data.toList.length + (headA n.attrs).length + 1 + (N.w.go n.kids).length + 1 := by rw [N.w_eq, if_neg hk]; simp; omega
    rw [e, end_plain _ _ o i (name_plain p1) ho', end_headA _ _ o _ p4 ho']
    have h91 : ∀ (o : Int) (i : Nat) (l : Bs), 0 < o → endGo o false false i (91 :: l) = endGo (o + 1) false false (i + 1) l := fun o i l ho => by
      have : ¬ o + 1 = 0 := by omega
      simp [endGo, stepS, this]
    have h93 : ∀ (o : Int) (i : Nat) (l : Bs), 1 < o → endGo o false false i (93 :: l) = endGo (o - 1) false false (i + 1) l := fun o i l ho => by
      have : ¬ o - 1 = 0 := by omega
      simp [endGo, stepS, this]
    rw [h91 o _ _ ho, hgo n.kids (fun x hx => ⟨p5 x hx, fun r o i ho => end_node x r o i (p5 x hx) ho⟩) _ (o + 1) _ (by omega), h93 (o + 1) _ _ (by omega), e2]
    rw [show o + 1 - 1 = o by omega]
    congr 1; omega
termination_by SizeOf.sizeOf n
decreasing_by exact N.kids_lt hx
theorem end_go : ∀ (l : List N) (r : Bs) (o : Int) (i : Nat), (∀ x ∈ l, x.form = true) → 0 < o → endGo o false false i (N.w.go l ++ r) = endGo o false false (i + (N.w.go l).length) r
  | [], r, o, i, _, _ => by simp [N.w.go]
  | x :: l, r, o, i, hl, ho => by
    simp only [N.w.go, List.append_assoc]
    rw [end_node x _ o i (hl x (by simp)) ho, end_go l r o _ (fun y hy => hl y (by simp [hy])) ho, List.length_append]
    congr 1; omega
theorem endB_quote (v r : Bs) : endB (quoteB v ++ r) = (quoteB v).length := by
  unfold endB
  rw [end_quote, if_pos rfl]; omega
theorem endB_kids (l : List N) (r : Bs) (hl : ∀ x ∈ l, x.form = true) : endB (91 :: (N.w.go l ++ 93 :: r)) = (N.w.go l).length + 2 := by
  unfold endB
  have h1 : endGo 0 false false 0 (91 :: (N.w.go l ++ 93 :: r)) = endGo 1 false false 1 (N.w.go l ++ 93 :: r) := by simp [endGo, stepS]
  rw [h1, end_go l _ 1 1 hl (by omega)]
  simp [endGo, stepS]
  omega
/-- What a quoted text says. -/
def unqGo : Bs → Bs
  | [] => []
  | [_] => []
  | c :: d :: l => if c = 92 then d :: unqGo l else c :: unqGo (d :: l)
def unquoteB (s : Bs) : Bs := unqGo (s.drop 1)
theorem unq_esc : ∀ v : Bs, unqGo (esc v ++ [34]) = v
  | [] => rfl
  | c :: v => by
    have ih := unq_esc v
    by_cases h : c = 92 ∨ c = 34
    · simp only [esc, if_pos h, List.cons_append]
      rw [unqGo, if_pos rfl, ih]
    · simp only [esc, if_neg h, List.cons_append]
      obtain ⟨d, l, hl⟩ : ∃ d l, esc v ++ [34] = d :: l := by
        cases hev : esc v with
        | nil => exact ⟨34, [], rfl⟩
        | cons d l => exact ⟨d, _, rfl⟩
      rw [hl, unqGo, if_neg (fun e => h (.inl e)), ← hl, ih]
theorem unquote_quote (v : Bs) : unquoteB (quoteB v) = v := by
  unfold unquoteB quoteB
  simp only [List.cons_append, List.drop_succ_cons, List.drop_zero]
  exact unq_esc v
theorem unqGo_len : ∀ l : Bs, (unqGo l).length + 1 ≤ l.length + 1 ∧ (l ≠ [] → (unqGo l).length + 1 ≤ l.length)
  | [] => by simp [unqGo]
  | [c] => by simp [unqGo]
  | c :: d :: l => by
    simp only [unqGo]
    split
    · have := unqGo_len l
      simp; omega
    · have := (unqGo_len (d :: l)).2 (by simp)
      simp at this ⊢; omega
end Go.Proofs.D
