/-
  COMPLEMENTS, and how they are written: what is written is read in one way alone; how heavy they are.
-/
import Derived.Test.YtciibpfhjfegnaaGreatDoorP1
import Derived.Lib.RuneCount
set_option linter.unusedVariables false
set_option linter.unusedSimpArgs false
namespace Go.Proofs.D
open Go Go.Abs
noncomputable instance : DecidableEq N := fun a b => Classical.propDecidable _
/-- An entry. -/
structure Ent where
  has : Bool
  value : ByteArray
  rest : List N
theorem Ent.ext' {a b : Ent} (h1 : a.has = b.has) (h2 : a.value = b.value) (h3 : a.rest = b.rest) : a = b := by
  obtain ⟨⟩ := a
  obtain ⟨⟩ := b
  simp only at h1 h2 h3
  subst h1 h2 h3
  rfl
noncomputable instance : DecidableEq Ent := fun a b => Classical.propDecidable _
/-- A node, of some kids. -/
def xOf (l : List N) : N := .mk ⟨#[120]⟩ ⟨#[]⟩ [] [] l
/-- How deep, how large. -/
def N.deep : N → Int
  | .mk k t m a kids => if k = textK then 0 else wr .i64 (go kids 0 + 1)
where go : List N → Int → Int
  | [], d => d
  | x :: l, d => go l (if d < x.deep then x.deep else d)
theorem N.deep_eq (n : N) : n.deep = if n.kind = textK then 0 else wr .i64 (N.deep.go n.kids 0 + 1) := by
  obtain ⟨⟩ := n
  simp only [N.deep]
  rfl
def N.size : N → Int
  | .mk k t m a kids => if k = textK then Lib.runeCount t else wr .i64 (2 + go kids 0)
where go : List N → Int → Int
  | [], d => d
  | x :: l, d => go l (wr .i64 (d + x.size))
theorem N.size_eq (n : N) : n.size = if n.kind = textK then (Lib.runeCount n.text : Int) else wr .i64 (2 + N.size.go n.kids 0) := by
  obtain ⟨⟩ := n
  simp only [N.size]
  rfl
def N.check (n : N) : Int := if n.form = false then 2 else if 40 < n.deep then 4 else if 4000 < n.size then 5 else 0
theorem check_form {n : N} (h : n.check = 0) : n.form = true := by
  unfold N.check at h
  cases hf : n.form with
  | true => rfl
  | false => rw [hf] at h; simp at h
/-- Is an entry right, and how is it written? -/
def Ent.none (e : Ent) : Bool := decide (e.value = ⟨#[]⟩) && decide (e.rest.length = 0)
def Ent.ok (e : Ent) : Bool := if e.has = true then Go.Proofs.D.value e.value && decide ((xOf e.rest).check = 0) else e.none
def Ent.w (e : Ent) : Bs := if e.has = true then 61 :: (quoteB e.value.data.toList ++ (if N.w.go e.rest = [] then [] else 91 :: (N.w.go e.rest ++ [93]))) else [45]
theorem x_form {l : List N} (h : (xOf l).form = true) : ∀ x ∈ l, x.form = true := by
  have hk : ¬ (xOf l).kind = textK := by
    intro e
    have h1 : (xOf l).kind = ⟨#[120]⟩ := rfl
    rw [h1] at e
    have := congrArg ByteArray.size e
    exact absurd this (by decide)
  exact (form_kind h hk).2.2.2.2
theorem go_nil {l : List N} (h : ∀ x ∈ l, x.form = true) : N.w.go l = [] ↔ l = [] := by
  constructor
  · intro e
    cases l with
    | nil => rfl
    | cons x l =>
      obtain ⟨c, t, h1, _⟩ := w_first (h x (by simp))
      simp [N.w.go, h1] at e
  · intro e; subst e; rfl
theorem ent_uni : Uni Ent.w (fun e => e.ok = true) (Stop (· == 91)) := fun a b ha hb r r' hr hr' h => by
  unfold Ent.w at h
  unfold Ent.ok Ent.none at ha hb
  cases h1 : a.has <;> cases h2 : b.has
  · simp [h1] at ha
    simp [h2] at hb
    simp [h1, h2] at h
    exact ⟨Ent.ext' (h1.trans h2.symm) (ha.1.trans hb.1.symm) (ha.2.trans hb.2.symm), h⟩
  · simp [h1, h2] at h
  · simp [h1, h2] at h
  · simp only [h1, h2, if_true, Bool.and_eq_true, decide_eq_true_eq] at h ha hb
    simp only [List.cons_append, List.append_assoc, List.cons.injEq, true_and] at h
    obtain ⟨i1, i2⟩ := quote_uni _ _ trivial trivial _ _ trivial trivial h
    have f1 := x_form (check_form ha.2)
    have f2 := x_form (check_form hb.2)
    have g1 := go_nil f1
    have g2 := go_nil f2
    by_cases e1 : a.rest = [] <;> by_cases e2 : b.rest = []
    · rw [if_pos (g1.2 e1), if_pos (g2.2 e2)] at i2
      exact ⟨Ent.ext' (h1.trans h2.symm) (bsExt i1) (e1.trans e2.symm), by simpa using i2⟩
    · rw [if_pos (g1.2 e1), if_neg (fun h => e2 (g2.1 h))] at i2
      simp only [List.nil_append, List.cons_append] at i2
      have := hr 91 (by rw [i2]; rfl)
      simp at this
    · rw [if_neg (fun h => e1 (g1.1 h)), if_pos (g2.2 e2)] at i2
      simp only [List.nil_append, List.cons_append] at i2
      have := hr' 91 (by rw [← i2]; rfl)
      simp at this
    · rw [if_neg (fun h => e1 (g1.1 h)), if_neg (fun h => e2 (g2.1 h))] at i2
      simp only [List.cons_append, List.append_assoc, List.nil_append, List.cons.injEq, true_and] at i2
      obtain ⟨j1, j2⟩ := kids_uni (fun x hx y hy r r' hr hr' h => w_uni x y (f1 x hx) hy r r' hr hr' h) b.rest f1 f2 r r' i2
      exact ⟨Ent.ext' (h1.trans h2.symm) (bsExt i1) j1, j2⟩
theorem ent_first (e : Ent) : ∃ c t, e.w = c :: t ∧ c ≠ 10 := by
  unfold Ent.w
  split
  · exact ⟨61, _, rfl, by decide⟩
  · exact ⟨45, _, rfl, by decide⟩
def lineB (l : List Ent) : Bs := sepBy 32 (l.map Ent.w) ++ [10]
theorem line_uni (l m : List Ent) (hl : ∀ e ∈ l, e.ok = true) (hm : ∀ e ∈ m, e.ok = true) (r r' : Bs) (h : lineB l ++ r = lineB m ++ r') : l = m ∧ r = r' := by
  simp only [lineB, List.append_assoc, List.cons_append, List.nil_append] at h
  by_cases h1 : l = [] <;> by_cases h2 : m = []
  · subst h1 h2
    simpa [sepBy] using h
  · obtain ⟨y, m, rfl⟩ := List.exists_cons_of_ne_nil h2
    obtain ⟨c, t, q1, q2⟩ := ent_first y
    subst h1
    simp [sepBy, q1] at h
    exact absurd h.1.symm q2
  · obtain ⟨y, m', rfl⟩ := List.exists_cons_of_ne_nil h1
    obtain ⟨c, t, q1, q2⟩ := ent_first y
    subst h2
    simp [sepBy, q1] at h
    exact absurd h.1 q2
  · obtain ⟨i1, i2⟩ := sepBy_uni ent_uni 32 (fun _ => stop_cons (by decide)) l m hl hm h1 h2 _ _ (stop_cons (by decide)) (stop_cons (by decide)) (stop_cons (by decide)) (stop_cons (by decide)) h
    simp at i2
    exact ⟨i1, i2⟩
abbrev Cm := List (List Ent)
def compB : Cm → Bs
  | [] => []
  | l :: c => lineB l ++ compB c
def okC (c : Cm) : Bool := c.all fun l => l.all Ent.ok
theorem comp_uni : ∀ (a b : Cm), okC a = true → okC b = true → compB a = compB b → a = b
  | [], [], _, _, _ => rfl
  | [], m :: b, _, _, h => by simp [compB, lineB] at h
  | l :: a, [], _, _, h => by simp [compB, lineB] at h
  | l :: a, m :: b, ha, hb, h => by
    simp only [okC, List.all_cons, Bool.and_eq_true, List.all_eq_true] at ha hb
    obtain ⟨i1, i2⟩ := line_uni l m ha.1 hb.1 _ _ h
    rw [i1, comp_uni a b (by simp only [okC, List.all_eq_true]; exact ha.2) (by simp only [okC, List.all_eq_true]; exact hb.2) i2]
/-! ### how heavy -/
def names1 (l : List ByteArray) : Nat := (l.map fun s => 1 + s.size).sum
def attrs1 (l : List (ByteArray × ByteArray)) : Nat := (l.map fun p => 1 + p.1.size + p.2.size).sum
def N.wt : N → Nat
  | .mk k t m a kids => 1 + k.size + t.size + names1 m + attrs1 a + go kids
where go : List N → Nat
  | [] => 0
  | x :: l => x.wt + go l
theorem N.wt_eq (n : N) : n.wt = 1 + n.kind.size + n.text.size + names1 n.marks + attrs1 n.attrs + N.wt.go n.kids := by
  obtain ⟨⟩ := n
  simp only [N.wt]
  rfl
theorem wt_kid {l : List N} {x : N} (h : x ∈ l) : x.wt ≤ N.wt.go l := by
  induction l with
  | nil => cases h
  | cons y l ih =>
    simp only [N.wt.go]
    rcases List.mem_cons.1 h with rfl | h
    · omega
    · have := ih h; omega
theorem wt_pos (n : N) : 1 ≤ n.wt := by rw [N.wt_eq]; omega
theorem go_len_wt (l : List N) : l.length ≤ N.wt.go l := by
  induction l with
  | nil => simp
  | cons x l ih => have := wt_pos x; simp only [N.wt.go, List.length_cons]; omega
theorem mem_names1 {l : List ByteArray} {s : ByteArray} (h : s ∈ l) : 1 + s.size ≤ names1 l := by
  induction l with
  | nil => cases h
  | cons x l ih =>
    simp only [names1, List.map_cons, List.sum_cons] at ih ⊢
    rcases List.mem_cons.1 h with rfl | h
    · omega
    · have := ih h; omega
theorem mem_attrs1 {l : List (ByteArray × ByteArray)} {s : ByteArray × ByteArray} (h : s ∈ l) : 1 + s.1.size + s.2.size ≤ attrs1 l := by
  induction l with
  | nil => cases h
  | cons x l ih =>
    simp only [attrs1, List.map_cons, List.sum_cons] at ih ⊢
    rcases List.mem_cons.1 h with rfl | h
    · omega
    · have := ih h; omega
theorem names1_len (l : List ByteArray) : l.length ≤ names1 l := by
  induction l with
  | nil => simp
  | cons x l ih => simp only [names1, List.map_cons, List.sum_cons, List.length_cons] at ih ⊢; omega
theorem attrs1_len (l : List (ByteArray × ByteArray)) : l.length ≤ attrs1 l := by
  induction l with
  | nil => simp
  | cons x l ih => simp only [attrs1, List.map_cons, List.sum_cons, List.length_cons] at ih ⊢; omega
theorem esc_len (l : Bs) : (esc l).length ≤ 2 * l.length := by
  induction l with
  | nil => simp [esc]
  | cons c l ih =>
    simp only [esc]
    split <;> simp <;> omega
theorem quote_len (l : Bs) : (quoteB l).length ≤ 2 * l.length + 2 := by
  have := esc_len l
  simp [quoteB]
  omega
theorem bsz (s : ByteArray) : s.data.toList.length = s.size := Array.length_toList
theorem sepTail_len (s : UInt8) (l : List Bs) : (sepTail s l).length = (l.map fun x => 1 + x.length).sum := by
  induction l with
  | nil => rfl
  | cons x l ih =>
    simp only [sepTail, List.flatMap_cons, List.length_append, List.length_cons, List.map_cons, List.sum_cons] at ih ⊢
    omega
theorem sepBy_len (s : UInt8) (l : List Bs) : (sepBy s l).length ≤ (l.map fun x => 1 + x.length).sum := by
  cases l with
  | nil => simp [sepBy]
  | cons x l =>
    simp only [sepBy, List.length_append, sepTail_len, List.map_cons, List.sum_cons]
    omega
theorem headT_len (m : List ByteArray) : (headT m).length ≤ 2 + names1 m := by
  unfold headT
  split
  · simp
  · have := sepBy_len 44 (m.map (·.data.toList))
    have e : ((m.map (·.data.toList)).map fun x => 1 + x.length) = m.map fun s => 1 + s.size := by
      rw [List.map_map]; rfl
    rw [e] at this
    simp only [List.length_cons, List.length_append, List.length_nil, names1]
    omega
theorem attrs_sum (a : List (ByteArray × ByteArray)) : ((a.map attrB).map fun x => 1 + x.length).sum ≤ 4 * attrs1 a := by
  induction a with
  | nil => simp
  | cons p a ih =>
    simp only [List.map_cons, List.sum_cons, attrs1] at ih ⊢
    have h1 := quote_len p.2.data.toList
    rw [bsz] at h1
    have h2 : (attrB p).length = p.1.size + 1 + (quoteB p.2.data.toList).length := by
      simp only [attrB, List.length_append, List.length_cons, bsz]; omega
    omega
theorem headA_len (a : List (ByteArray × ByteArray)) : (headA a).length ≤ 2 + 4 * attrs1 a := by
  unfold headA
  split
  · simp
  · have := sepBy_len 32 (a.map attrB)
    have h2 := attrs_sum a
    simp only [List.length_cons, List.length_append, List.length_nil]
    omega
theorem w_len (n : N) : n.w.length ≤ 4 * n.wt := by
  have hk : (N.w.go n.kids).length ≤ 4 * N.wt.go n.kids := by
    have : ∀ l : List N, (∀ x ∈ l, x.w.length ≤ 4 * x.wt) → (N.w.go l).length ≤ 4 * N.wt.go l := by
      intro l
      induction l with
      | nil => intro _; simp [N.w.go]
      | cons x l ih =>
        intro h
        have h1 := h x (by simp)
        have h2 := ih fun y hy => h y (by simp [hy])
        simp only [N.w.go, N.wt.go, List.length_append]
        omega
    exact this n.kids fun x hx => w_len x
  rw [N.w_eq, N.wt_eq]
  split
  · have h1 := quote_len n.text.data.toList
    have h2 := headT_len n.marks
    rw [bsz] at h1
    simp only [List.length_append]
    omega
  · have h2 := headA_len n.attrs
    simp only [List.length_append, List.length_cons, List.length_nil, bsz]
    omega
termination_by SizeOf.sizeOf n
decreasing_by exact N.kids_lt hx
theorem go_len4 : ∀ l : List N, (N.w.go l).length ≤ 4 * N.wt.go l
  | [] => by simp [N.w.go]
  | x :: l => by
    have h1 := w_len x
    have h2 := go_len4 l
    simp only [N.w.go, N.wt.go, List.length_append]
    omega
def Ent.wt (e : Ent) : Nat := 1 + e.value.size + N.wt.go e.rest
def slotWt (l : List Ent) : Nat := 1 + (l.map Ent.wt).sum
def compWt (c : Cm) : Nat := (c.map slotWt).sum
end Go.Proofs.D
