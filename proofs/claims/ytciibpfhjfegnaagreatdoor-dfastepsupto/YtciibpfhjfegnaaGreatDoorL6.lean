/-
  THE LEAST ROW THAT TELLS TWO TABLES APART: pairs of states, in the order in which they are met.
-/
import Derived.Test.YtciibpfhjfegnaaGreatDoorF6
set_option linter.unusedVariables false
set_option linter.unusedSimpArgs false
namespace Go.Proofs.D
open Go Go.Abs
/-! ### rows: the shorter one ahead, of one length by their names' bytes -/
def blt (a b : ByteArray) : Prop := a.data.toList < b.data.toList
theorem bext {a b : ByteArray} (h : a.data.toList = b.data.toList) : a = b := by
  cases a; cases b; simp at h; simp [h]
theorem blt_irrefl (a : ByteArray) : ¬ blt a a := List.lt_irrefl _
theorem blt_trans {a b c : ByteArray} (h : blt a b) (h' : blt b c) : blt a c := List.lt_trans h h'
theorem blt_tri (a b : ByteArray) : blt a b ∨ a = b ∨ blt b a := by
  by_cases h : blt a b
  · exact .inl h
  · by_cases h' : blt b a
    · exact .inr (.inr h')
    · exact .inr (.inl (bext (List.le_antisymm (List.not_lt.1 h') (List.not_lt.1 h))))
def lexlt : Row → Row → Prop
  | a :: u, b :: v => blt a b ∨ (a = b ∧ lexlt u v)
  | _, _ => False
theorem lexlt_irrefl : ∀ u : Row, ¬ lexlt u u
  | [] => fun h => h
  | a :: u => fun h => by
    rcases h with h | ⟨_, h⟩
    · exact blt_irrefl a h
    · exact lexlt_irrefl u h
theorem lexlt_trans : ∀ {u v w : Row}, lexlt u v → lexlt v w → lexlt u w
  | [], _, _, h, _ => h.elim
  | _ :: _, [], _, h, _ => h.elim
  | _ :: _, _ :: _, [], _, h => h.elim
  | a :: u, b :: v, c :: w, h, h' => by
    rcases h with h | ⟨rfl, h⟩
    · rcases h' with h' | ⟨rfl, h'⟩
      · exact .inl (blt_trans h h')
      · exact .inl h
    · rcases h' with h' | ⟨rfl, h'⟩
      · exact .inl h'
      · exact .inr ⟨rfl, lexlt_trans h h'⟩
theorem lexlt_tri : ∀ (u v : Row), u.length = v.length → lexlt u v ∨ u = v ∨ lexlt v u
  | [], [], _ => .inr (.inl rfl)
  | [], _ :: _, h => by simp at h
  | _ :: _, [], h => by simp at h
  | a :: u, b :: v, h => by
    rcases blt_tri a b with g | rfl | g
    · exact .inl (.inl g)
    · rcases lexlt_tri u v (by simpa using h) with g | rfl | g
      · exact .inl (.inr ⟨rfl, g⟩)
      · exact .inr (.inl rfl)
      · exact .inr (.inr (.inr ⟨rfl, g⟩))
    · exact .inr (.inr (.inl g))
theorem lexlt_app : ∀ {u v : Row} (x y : Row), u.length = v.length → lexlt u v → lexlt (u ++ x) (v ++ y)
  | [], _, _, _, _, h => h.elim
  | _ :: _, [], _, _, _, h => h.elim
  | a :: u, b :: v, x, y, hl, h => by
    rcases h with h | ⟨rfl, h⟩
    · exact .inl h
    · exact .inr ⟨rfl, lexlt_app x y (by simpa using hl) h⟩
theorem lexlt_last {x y : ByteArray} (h : blt x y) : ∀ u : Row, lexlt (u ++ [x]) (u ++ [y])
  | [] => .inl h
  | a :: u => .inr ⟨rfl, lexlt_last h u⟩
def slt (u v : Row) : Prop := u.length < v.length ∨ (u.length = v.length ∧ lexlt u v)
def sle (u v : Row) : Prop := u = v ∨ slt u v
theorem slt_irrefl (u : Row) : ¬ slt u u := by
  rintro (h | ⟨_, h⟩)
  · omega
  · exact lexlt_irrefl u h
theorem slt_trans {u v w : Row} (h : slt u v) (h' : slt v w) : slt u w := by
  rcases h with h | ⟨h, g⟩
  · rcases h' with h' | ⟨h', _⟩
    · exact .inl (by omega)
    · exact .inl (by omega)
  · rcases h' with h' | ⟨h', g'⟩
    · exact .inl (by omega)
    · exact .inr ⟨by omega, lexlt_trans g g'⟩
theorem slt_tri (u v : Row) : slt u v ∨ u = v ∨ slt v u := by
  rcases Nat.lt_trichotomy u.length v.length with h | h | h
  · exact .inl (.inl h)
  · rcases lexlt_tri u v h with g | g | g
    · exact .inl (.inr ⟨h, g⟩)
    · exact .inr (.inl g)
    · exact .inr (.inr (.inr ⟨h.symm, g⟩))
  · exact .inr (.inr (.inl h))
theorem sle_trans {u v w : Row} (h : sle u v) (h' : sle v w) : sle u w := by
  rcases h with rfl | h
  · exact h'
  · rcases h' with rfl | h'
    · exact .inr h
    · exact .inr (slt_trans h h')
theorem slt_sle {u v w : Row} (h : slt u v) (h' : sle v w) : slt u w := by
  rcases h' with rfl | h'
  · exact h
  · exact slt_trans h h'
theorem sle_slt {u v w : Row} (h : sle u v) (h' : slt v w) : slt u w := by
  rcases h with rfl | h
  · exact h'
  · exact slt_trans h h'
theorem not_slt {u v : Row} (h : ¬ slt u v) : sle v u := by
  rcases slt_tri u v with g | g | g
  · exact absurd g h
  · exact .inl g.symm
  · exact .inr g
theorem slt_snoc {u v : Row} (x y : ByteArray) (h : slt u v) : slt (u ++ [x]) (v ++ [y]) := by
  rcases h with h | ⟨h, g⟩
  · exact .inl (by simp; omega)
  · exact .inr ⟨by simp [h], lexlt_app _ _ h g⟩
theorem sle_snoc {u v : Row} (x : ByteArray) (h : sle u v) : sle (u ++ [x]) (v ++ [x]) := by
  rcases h with rfl | h
  · exact .inl rfl
  · exact .inr (slt_snoc x x h)
theorem slt_last {x y : ByteArray} (u : Row) (h : blt x y) : slt (u ++ [x]) (u ++ [y]) := .inr ⟨by simp, lexlt_last h u⟩
theorem slt_app (u : Row) (x : ByteArray) : slt u (u ++ [x]) := .inl (by simp)
theorem sle_nil (u : Row) : sle [] u := by
  cases u with
  | nil => exact .inl rfl
  | cons a u => exact .inr (.inl (by simp))

/-! ### the pairs -/
abbrev Way := (Int × Int) × Row
section
variable (a b : Au) (bad : Int → Int → Bool) (names : List ByteArray)
def pr (w : Row) : Int × Int := (a.run 0 w, b.run 0 w)
def stp2 (p : Int × Int) (x : ByteArray) : Int × Int := (a.stp p.1 x, b.stp p.2 x)
theorem pr_snoc (w : Row) (x : ByteArray) : pr a b (w ++ [x]) = stp2 a b (pr a b w) x := by
  simp [pr, stp2, run_append, run_cons, run_nil]
/-- Ways that were found, those up to the i-th gone on from; and from the i-th by the names done. -/
structure Ways (i : Nat) (done : List ByteArray) (ways : List Way) : Prop where
  first : ways[0]? = some ((0, 0), [])
  at' : ∀ q ∈ ways, q.1 = pr a b q.2 ∧ ∀ x ∈ q.2, x ∈ names
  nodup : (ways.map (·.1)).Nodup
  alive : ∀ q ∈ ways, q.1 ≠ (-1, -1)
  sorted : ∀ (m m' : Nat) (q q' : Way), m < m' → ways[m]? = some q → ways[m']? = some q' → slt q.2 q'.2
  last : ∀ q ∈ ways, q.2 = [] ∨ ∃ (k : Nat) (p : Way) (x : ByteArray), ways[k]? = some p ∧ q.2 = p.2 ++ [x] ∧ (k < i ∨ (k = i ∧ x ∈ done))
  next : ∀ (k : Nat) (p : Way) (x : ByteArray), ways[k]? = some p → x ∈ names → (k < i ∨ (k = i ∧ x ∈ done)) → stp2 a b p.1 x = (-1, -1) ∨ ∃ q ∈ ways, q.1 = stp2 a b p.1 x ∧ sle q.2 (p.2 ++ [x])
  good : ∀ (k : Nat) (p : Way), ways[k]? = some p → (k < i ∨ (k = i ∧ done ≠ [])) → bad p.1.1 p.1.2 = false
theorem ways_start : Ways a b bad names 0 [] [((0, 0), [])] := by
  refine ⟨rfl, fun q hq => ?_, by simp, fun q hq => ?_, fun m m' q q' hlt h1 h2 => ?_, fun q hq => ?_, fun k p x hk _ h => ?_, fun k p hk h => ?_⟩
  · simp at hq; subst hq; exact ⟨rfl, fun x hx => by cases hx⟩
  · simp at hq; subst hq; decide
  · have := (List.getElem?_eq_some_iff.1 h2).1
    simp at this
    omega
  · simp at hq; subst hq; exact .inl rfl
  · rcases h with h | ⟨_, h⟩
    · omega
    · cases h
  · rcases h with h | ⟨_, h⟩
    · omega
    · exact absurd rfl h
variable {a b bad names}
theorem ways_pos {i : Nat} {done : List ByteArray} {ways : List Way} (h : Ways a b bad names i done ways) : 0 < ways.length := (List.getElem?_eq_some_iff.1 h.first).1
/-- All that was found so far stands ahead of what is found now. -/
theorem ways_ahead {i : Nat} {done rest : List ByteArray} {ways : List Way} {x : ByteArray} (h : Ways a b bad names i done ways) (hn : (done ++ x :: rest).Pairwise blt) {p : Way} (hp : ways[i]? = some p) : ∀ q ∈ ways, slt q.2 (p.2 ++ [x]) := by
  intro q hq
  rcases h.last q hq with e | ⟨k, p', y, hk, e, hki | ⟨rfl, hy⟩⟩
  · rw [e]; exact sle_slt (sle_nil p.2) (slt_app _ _)
  · rw [e]; exact slt_snoc y x (h.sorted k i p' p hki hk hp)
  · rw [hk] at hp
    cases hp
    rw [e]
    exact slt_last _ ((List.pairwise_append.1 hn).2.2 y hy x (by simp))
/-- A name more: what is met already. -/
theorem ways_old {i : Nat} {done rest : List ByteArray} {ways : List Way} {x : ByteArray} (h : Ways a b bad names i done ways) (hn : (done ++ x :: rest).Pairwise blt) {p : Way} (hp : ways[i]? = some p) (hgood : bad p.1.1 p.1.2 = false)
    (hm : stp2 a b p.1 x = (-1, -1) ∨ stp2 a b p.1 x ∈ ways.map (·.1)) : Ways a b bad names i (done ++ [x]) ways := by
  refine { h with last := fun q hq => ?_, next := fun k p' y hk hy hd => ?_, good := fun k p' hk hd => ?_ }
  · rcases h.last q hq with e | ⟨k, p', y, hk, e, hki | ⟨rfl, hy⟩⟩
    · exact .inl e
    · exact .inr ⟨k, p', y, hk, e, .inl hki⟩
    · exact .inr ⟨k, p', y, hk, e, .inr ⟨rfl, by simp [hy]⟩⟩
  · rcases hd with hd | ⟨rfl, hd⟩
    · exact h.next k p' y hk hy (.inl hd)
    · rcases List.mem_append.1 hd with hd | hd
      · exact h.next k p' y hk hy (.inr ⟨rfl, hd⟩)
      · simp at hd
        subst hd
        rw [hk] at hp
        cases hp
        rcases hm with hm | hm
        · exact .inl hm
        · obtain ⟨q, hq, e⟩ := List.mem_map.1 hm
          exact .inr ⟨q, hq, e, .inr (ways_ahead h hn hk q hq)⟩
  · rcases hd with hd | ⟨rfl, _⟩
    · exact h.good k p' hk (.inl hd)
    · rw [hk] at hp; cases hp; exact hgood
/-- .. and one that was not. -/
theorem ways_new {i : Nat} {done rest : List ByteArray} {ways : List Way} {x : ByteArray} (h : Ways a b bad names i done ways) (hn : (done ++ x :: rest).Pairwise blt) (hx : x ∈ names) {p : Way} (hp : ways[i]? = some p) (hgood : bad p.1.1 p.1.2 = false)
    (hm : stp2 a b p.1 x ≠ (-1, -1)) (hm' : stp2 a b p.1 x ∉ ways.map (·.1)) : Ways a b bad names i (done ++ [x]) (ways ++ [(stp2 a b p.1 x, p.2 ++ [x])]) := by
  have hah := ways_ahead h hn hp
  have hpm := List.mem_of_getElem? hp
  have h0 := ways_pos h
  have hil := (List.getElem?_eq_some_iff.1 hp).1
  have old : ∀ (k : Nat) (q : Way), (ways ++ [(stp2 a b p.1 x, p.2 ++ [x])])[k]? = some q → (ways[k]? = some q) ∨ (k = ways.length ∧ q = (stp2 a b p.1 x, p.2 ++ [x])) := fun k q hk => by
    by_cases hlt : k < ways.length
    · rw [List.getElem?_append_left hlt] at hk; exact .inl hk
    · rw [List.getElem?_append_right (by omega)] at hk
      have := (List.getElem?_eq_some_iff.1 hk).1
      simp at this
      have hk0 : k - ways.length = 0 := by omega
      rw [hk0] at hk
      simp at hk
      exact .inr ⟨by omega, hk.symm⟩
  have keep : ∀ (k : Nat) (q : Way), ways[k]? = some q → (ways ++ [(stp2 a b p.1 x, p.2 ++ [x])])[k]? = some q := fun k q hk => by
    rw [List.getElem?_append_left (List.getElem?_eq_some_iff.1 hk).1]; exact hk
  refine ⟨keep 0 _ h.first, fun q hq => ?_, ?_, fun q hq => ?_, fun m m' q q' hlt h1 h2 => ?_, fun q hq => ?_, fun k p' y hk hy hd => ?_, fun k p' hk hd => ?_⟩
  · rcases List.mem_append.1 hq with hq | hq
    · exact h.at' q hq
    · simp at hq
      subst hq
      obtain ⟨e1, e2⟩ := h.at' p hpm
      refine ⟨?_, fun y hy => ?_⟩
      · show stp2 a b p.1 x = pr a b (p.2 ++ [x])
        rw [pr_snoc, e1]
      · rcases List.mem_append.1 hy with hy | hy
        · exact e2 y hy
        · simp at hy; rw [hy]; exact hx
  · rw [List.map_append]
    refine List.nodup_append.2 ⟨h.nodup, by simp, fun u hu v hv => ?_⟩
    simp at hv
    subst hv
    exact fun e => hm' (e ▸ hu)
  · rcases List.mem_append.1 hq with hq | hq
    · exact h.alive q hq
    · simp at hq; subst hq; exact hm
  · rcases old m' q' h2 with g2 | ⟨rfl, rfl⟩
    · rcases old m q h1 with g1 | ⟨rfl, rfl⟩
      · exact h.sorted m m' q q' hlt g1 g2
      · have := (List.getElem?_eq_some_iff.1 g2).1
        omega
    · rcases old m q h1 with g1 | ⟨g1, _⟩
      · exact hah q (List.mem_of_getElem? g1)
      · omega
  · rcases List.mem_append.1 hq with hq | hq
    · rcases h.last q hq with e | ⟨k, p', y, hk, e, hki | ⟨rfl, hy⟩⟩
      · exact .inl e
      · exact .inr ⟨k, p', y, keep k p' hk, e, .inl hki⟩
      · exact .inr ⟨k, p', y, keep k p' hk, e, .inr ⟨rfl, by simp [hy]⟩⟩
    · simp at hq
      subst hq
      exact .inr ⟨i, p, x, keep i p hp, rfl, .inr ⟨rfl, by simp⟩⟩
  · have hki : k < ways.length := by rcases hd with hd | ⟨rfl, _⟩ <;> omega
    rcases old k p' hk with g | ⟨g, _⟩
    · have up : (stp2 a b p'.1 y = (-1, -1) ∨ ∃ q ∈ ways, q.1 = stp2 a b p'.1 y ∧ sle q.2 (p'.2 ++ [y])) → (stp2 a b p'.1 y = (-1, -1) ∨ ∃ q ∈ ways ++ [(stp2 a b p.1 x, p.2 ++ [x])], q.1 = stp2 a b p'.1 y ∧ sle q.2 (p'.2 ++ [y])) := by
        rintro (e | ⟨q, hq, e⟩)
        · exact .inl e
        · exact .inr ⟨q, by simp [hq], e⟩
      rcases hd with hd | ⟨rfl, hd⟩
      · exact up (h.next k p' y g hy (.inl hd))
      · rcases List.mem_append.1 hd with hd | hd
        · exact up (h.next k p' y g hy (.inr ⟨rfl, hd⟩))
        · simp at hd
          subst hd
          rw [g] at hp
          cases hp
          exact .inr ⟨_, List.mem_append.2 (.inr (List.mem_singleton.2 rfl)), rfl, .inl rfl⟩
    · omega
  · have hki : k < ways.length := by rcases hd with hd | ⟨rfl, _⟩ <;> omega
    rcases old k p' hk with g | ⟨g, _⟩
    · rcases hd with hd | ⟨rfl, _⟩
      · exact h.good k p' g (.inl hd)
      · rw [g] at hp; cases hp; exact hgood
    · omega
/-- All names done: on to the next way. -/
theorem ways_turn {i : Nat} {done : List ByteArray} {ways : List Way} (h : Ways a b bad names i done ways) (hd : ∀ x ∈ names, x ∈ done) {p : Way} (hp : ways[i]? = some p) (hgood : bad p.1.1 p.1.2 = false) : Ways a b bad names (i + 1) [] ways := by
  refine { h with last := fun q hq => ?_, next := fun k p' y hk hy hd' => ?_, good := fun k p' hk hd' => ?_ }
  · rcases h.last q hq with e | ⟨k, p', y, hk, e, hki | ⟨rfl, hy⟩⟩
    · exact .inl e
    · exact .inr ⟨k, p', y, hk, e, .inl (by omega)⟩
    · exact .inr ⟨k, p', y, hk, e, .inl (by omega)⟩
  · rcases hd' with hk' | ⟨_, hd'⟩
    · by_cases hki : k < i
      · exact h.next k p' y hk hy (.inl hki)
      · have : k = i := by omega
        subst this
        exact h.next k p' y hk hy (.inr ⟨rfl, hd y hy⟩)
    · cases hd'
  · rcases hd' with hk' | ⟨_, hd'⟩
    · by_cases hki : k < i
      · exact h.good k p' hk (.inl hki)
      · have : k = i := by omega
        subst this
        rw [hk] at hp
        cases hp
        exact hgood
    · exact absurd rfl hd'
theorem pr_dead {a b : Au} : ∀ (w : Row) (s : Int × Int), s = (-1, -1) → (a.run s.1 w, b.run s.2 w) = (-1, -1)
  | [], s, h => by rw [h]; rfl
  | x :: w, s, h => by
    rw [run_cons, run_cons, h, stp_neg a (by decide), stp_neg b (by decide)]
    exact pr_dead w (-1, -1) rfl
/-- Where a row leads: nowhere, or to where a way led that is no greater; or the row is no less than the next way. -/
theorem ways_reach {i : Nat} {ways : List Way} (h : Ways a b bad names i [] ways) (hna : ∀ r ∈ a.next, r.length = a.names.length) (hnb : ∀ r ∈ b.next, r.length = b.names.length) (hnm : ∀ x, x ∈ names ↔ x ∈ a.names ∨ x ∈ b.names) : ∀ (n : Nat) (w : Row), w.length = n → (∀ q, ways[i]? = some q → slt w q.2) →
    pr a b w = (-1, -1) ∨ ∃ q ∈ ways, q.1 = pr a b w ∧ sle q.2 w := by
  intro n
  induction n with
  | zero =>
    intro w hw _
    obtain rfl := List.eq_nil_of_length_eq_zero hw
    exact .inr ⟨_, List.mem_of_getElem? h.first, rfl, .inl rfl⟩
  | succ n ih =>
    intro w hw hlt
    obtain ⟨u, x, rfl⟩ : ∃ u x, w = u ++ [x] := ⟨w.dropLast, w.getLast (by intro e; rw [e] at hw; cases hw), (List.dropLast_concat_getLast _).symm⟩
    have hu : u.length = n := by simpa using hw
    rw [pr_snoc]
    rcases ih u hu (fun q hq => slt_trans (slt_app u x) (hlt q hq)) with e | ⟨q, hq, e, hle⟩
    · left
      rw [e]
      simp [stp2, stp_neg]
    · by_cases hx : x ∈ names
      · obtain ⟨k, hk⟩ := List.getElem?_of_mem hq
        have hki : k < i := by
          refine Classical.byContradiction fun hge => ?_
          by_cases hil : i < ways.length
          · have hqi : ways[i]? = some ways[i] := by simp
            have h1 := hlt _ hqi
            have h2 : sle ways[i].2 q.2 := by
              by_cases hik : i = k
              · subst hik
                rw [hk] at hqi
                cases hqi
                exact .inl rfl
              · exact .inr (h.sorted i k _ _ (by omega) hqi hk)
            exact slt_irrefl _ (slt_sle h1 (sle_trans h2 (sle_trans hle (.inr (slt_app u x)))))
          · have := (List.getElem?_eq_some_iff.1 hk).1
            omega
        rcases h.next k q x hk hx (.inl hki) with e' | ⟨q', hq', e', hle'⟩
        · left; rw [← e]; exact e'
        · right
          exact ⟨q', hq', by rw [e', e], sle_trans hle' (sle_snoc x hle)⟩
      · left
        have h1 : x ∉ a.names := fun q => hx ((hnm x).2 (.inl q))
        have h2 : x ∉ b.names := fun q => hx ((hnm x).2 (.inr q))
        simp [stp2, stp_not a _ h1 hna, stp_not b _ h2 hnb]
/-- FOUND: no row that is less leads to a pair that is bad. -/
theorem ways_found {i : Nat} {ways : List Way} (h : Ways a b bad names i [] ways) (hna : ∀ r ∈ a.next, r.length = a.names.length) (hnb : ∀ r ∈ b.next, r.length = b.names.length) (hnm : ∀ x, x ∈ names ↔ x ∈ a.names ∨ x ∈ b.names) (hd : bad (-1) (-1) = false) {p : Way} (hp : ways[i]? = some p) :
    ∀ w, slt w p.2 → bad (pr a b w).1 (pr a b w).2 = false := by
  intro w hw
  rcases ways_reach h hna hnb hnm w.length w rfl (fun q hq => by rw [hp] at hq; cases hq; exact hw) with e | ⟨q, hq, e, hle⟩
  · rw [e]; exact hd
  · obtain ⟨k, hk⟩ := List.getElem?_of_mem hq
    rw [← e]
    refine h.good k q hk (.inl ?_)
    refine Classical.byContradiction fun hge => ?_
    by_cases hik : i = k
    · subst hik
      rw [hk] at hp
      cases hp
      exact slt_irrefl _ (slt_sle hw hle)
    · exact slt_irrefl _ (slt_trans hw (slt_sle (h.sorted i k _ _ (by omega) hp hk) hle))
/-- ALL GONE ON FROM: no row leads to a pair that is bad. -/
theorem ways_none {i : Nat} {ways : List Way} (h : Ways a b bad names i [] ways) (hna : ∀ r ∈ a.next, r.length = a.names.length) (hnb : ∀ r ∈ b.next, r.length = b.names.length) (hnm : ∀ x, x ∈ names ↔ x ∈ a.names ∨ x ∈ b.names) (hd : bad (-1) (-1) = false) (hi : ways.length ≤ i) :
    ∀ w, bad (pr a b w).1 (pr a b w).2 = false := by
  intro w
  rcases ways_reach h hna hnb hnm w.length w rfl (fun q hq => by rw [List.getElem?_eq_none (by omega)] at hq; cases hq) with e | ⟨q, hq, e, hle⟩
  · rw [e]; exact hd
  · obtain ⟨k, hk⟩ := List.getElem?_of_mem hq
    rw [← e]
    exact h.good k q hk (.inl (by have := (List.getElem?_eq_some_iff.1 hk).1; omega))
end
/-- The least row of which D holds, if there is one. -/
def LeastRow (D : Row → Prop) (w : Row) : Prop := D w ∧ ∀ v, slt v w → ¬ D v
theorem leastRow_one {D : Row → Prop} {u v : Row} (hu : LeastRow D u) (hv : LeastRow D v) : u = v := by
  rcases slt_tri u v with h | h | h
  · exact absurd hu.1 (hv.2 u h)
  · exact h
  · exact absurd hv.1 (hu.2 v h)
open Classical in
noncomputable def theRow (D : Row → Prop) : Row := if h : ∃ w, LeastRow D w then h.choose else []
theorem theRow_eq {D : Row → Prop} {w : Row} (h : LeastRow D w) : theRow D = w := by
  have hx : ∃ w, LeastRow D w := ⟨w, h⟩
  unfold theRow
  rw [dif_pos hx]
  exact leastRow_one hx.choose_spec h
theorem theRow_none {D : Row → Prop} (h : ∀ w, ¬ D w) : theRow D = [] := by
  unfold theRow
  rw [dif_neg (fun ⟨w, hw⟩ => h w hw.1)]
end Go.Proofs.D
/-
  AN EXPRESSION THAT IS WRITTEN IS READ AS IT WAS: items; the whole.
-/
set_option linter.unusedVariables false
set_option linter.unusedSimpArgs false
namespace Go.Proofs.D
open Go Go.Abs
theorem text_low : ∀ c ∈ (⟨#[116, 101, 120, 116]⟩ : ByteArray).data.toList, isLow c = true := by decide
theorem name_low6 {e : E} (h : e.ok = true) (h1 : e.op = 110) : (∀ c ∈ e.name.data.toList, isLow c = true) ∧ e.name.data.toList ≠ [] := by
  rw [E.ok_eq] at h
  simp [h1] at h
  rcases h.2 with h | h
  · simp only [isName, Bool.and_eq_true, decide_eq_true_eq, List.all_eq_true] at h
    obtain ⟨⟨⟨h2, h3⟩, h4⟩, _⟩ := h
    refine ⟨fun c hc => by have := h4 c hc; simp [isLow, this], fun hn => ?_⟩
    have : e.name.data.toList.length = e.name.size := Array.length_toList
    rw [hn] at this
    simp at this
    omega
  · rw [h]
    exact ⟨text_low, by decide⟩
theorem head_ok (e : E) (h : e.ok = true) (b : Bool) : ∃ c l, e.txl b = c :: l ∧ c ≠ 41 ∧ (isLow c = true ∨ c = 40) := by
  have hkid : ∀ k ∈ e.kids, ¬ e.op = 110 → ∀ b, ∃ c l, k.txl b = c :: l ∧ c ≠ 41 ∧ (isLow c = true ∨ c = 40) := fun k hk h1 b => head_ok k (E.ok_kids h h1 k hk).1 b
  rcases E.ok_ops h with ⟨h1, _⟩ | ⟨h1, _, h2⟩ | ⟨h1, _, h2⟩ | ⟨h1, _, k, h2, _⟩
  · obtain ⟨a, b'⟩ := name_low6 h h1
    unfold E.txl
    rw [text_eq, if_pos h1]
    cases hl : e.name.data.toList with
    | nil => exact absurd hl b'
    | cons c l =>
      rw [hl] at a
      have := a c (by simp)
      refine ⟨c, l, rfl, fun hc => ?_, .inl this⟩
      subst hc
      cases this
  · unfold E.txl
    rw [text_eq, if_neg (by omega), if_pos h1]
    split
    · exact ⟨40, [41], rfl, by decide, .inr rfl⟩
    · rw [par_list]
      split
      · exact ⟨40, _, rfl, by decide, .inr rfl⟩
      · cases hkk : e.kids with
        | nil => rename_i h0 _; rw [hkk] at h0; simp at h0
        | cons x xs =>
          obtain ⟨c, l, q1, q2, q3⟩ := hkid x (by rw [hkk]; simp) (by omega) (!decide (e.op = 97))
          have := join_list (fun z => z.text (!decide (e.op = 97))) 32 x xs
          rw [this]
          exact ⟨c, _, by rw [show (x.text (!decide (e.op = 97))).data.toList = c :: l from q1]; rfl, q2, q3⟩
  · unfold E.txl
    rw [text_eq, if_neg (by omega), if_neg (by omega), if_pos h1, par_list]
    split
    · exact ⟨40, _, rfl, by decide, .inr rfl⟩
    · cases hkk : e.kids with
      | nil => rw [hkk] at h2; simp at h2
      | cons x xs =>
        obtain ⟨c, l, q1, q2, q3⟩ := hkid x (by rw [hkk]; simp) (by omega) (!decide (e.op = 97))
        have := join_list (fun z => z.text (!decide (e.op = 97))) 124 x xs
        rw [this]
        exact ⟨c, _, by rw [show (x.text (!decide (e.op = 97))).data.toList = c :: l from q1]; rfl, q2, q3⟩
  · unfold E.txl
    rw [text_eq, if_neg (by omega), if_neg (by omega), if_neg (by omega), app_list, h2]
    obtain ⟨c, l, q1, q2, q3⟩ := hkid k (by rw [h2]; simp) (by omega) (!decide (e.op = 97))
    have e1 : joinB ([k].map fun z => z.text (!decide (e.op = 97))) ⟨#[]⟩ = k.text (!decide (e.op = 97)) := ext_list (by simp [joinB, Lib.join_one])
    rw [e1]
    exact ⟨c, _, by rw [show (k.text (!decide (e.op = 97))).data.toList = c :: l from q1]; rfl, q2, q3⟩
termination_by SizeOf.sizeOf e
decreasing_by exact E.kids_lt hk
/-- What stands ahead of a sign behind it, as item reads it. -/
theorem base_reads (k : Nat) (e : E) (hok : e.ok = true) (hsx : e.suffix = false) (halt : e.op = 97 ∨ (e.op = 115 ∧ e.kids ≠ []) → Reads (altR k) (e.txl false) e (e.cnt - 1) Calt) (r : List UInt8) (m : Int) (hr : ∀ c, r.head? = some c → isLow c = false) (h0 : 0 ≤ m) (hm : m + (e.cnt - 1 : Nat) ≤ 48) :
    ∃ m' : Int, m ≤ m' ∧ m' ≤ m + (e.cnt - 1 : Nat) ∧ baseF tl (altR k) ⟨B (e.txl true ++ r), false, m⟩ = (e, ⟨B r, false, m'⟩) := by
  have hmk : e = .mk e.op e.name e.kids := by obtain ⟨o, n, ks⟩ := e; rfl
  have bracket : e.txl true = 40 :: (e.txl false ++ [41]) → (e.op = 97 ∨ (e.op = 115 ∧ e.kids ≠ [])) → ∃ m' : Int, m ≤ m' ∧ m' ≤ m + (e.cnt - 1 : Nat) ∧ baseF tl (altR k) ⟨B (e.txl true ++ r), false, m⟩ = (e, ⟨B r, false, m'⟩) := by
    intro ht hop
    obtain ⟨c, l, q1, q2, q3⟩ := head_ok e hok false
    obtain ⟨m', a, b, h⟩ := halt hop (41 :: r) m ⟨⟨Cend_cons (by decide) (by decide) (by decide) (by decide) r, by simp⟩, by simp⟩ h0 hm
    refine ⟨m', a, b, ?_⟩
    have e1 : e.txl true ++ r = [40] ++ (e.txl false ++ (41 :: r)) := by rw [ht]; simp
    have p1 : hasPre (B ([40] ++ (e.txl false ++ (41 :: r)))) ⟨#[40, 41]⟩ = false := by
      cases hh : hasPre (B ([40] ++ (e.txl false ++ (41 :: r)))) ⟨#[40, 41]⟩ with
      | false => rfl
      | true =>
        obtain ⟨z, hz⟩ := (hp_iff _ [40, 41]).1 hh
        rw [q1] at hz
        simp at hz
        exact absurd hz.1 q2
    have p2 := hp_yes [40] (e.txl false ++ (41 :: r))
    have p3 := hp_yes [41] r
    unfold baseF
    rw [e1]
    simp only [p1, St.cut, cp_no p1, show hasPre (B ([40] ++ (e.txl false ++ (41 :: r)))) ⟨#[40]⟩ = true from p2, show cutPre (B ([40] ++ (e.txl false ++ (41 :: r)))) ⟨#[40]⟩ = B (e.txl false ++ (41 :: r)) from cp_yes [40] _, h,
      show hasPre (B (41 :: r)) ⟨#[41]⟩ = true from p3, show cutPre (B (41 :: r)) ⟨#[41]⟩ = B r from cp_yes [41] r]
    rfl
  rcases E.ok_ops hok with ⟨h1, hk⟩ | ⟨h1, hn, h2⟩ | ⟨h1, hn, h2⟩ | ⟨h1, hn, x, h2, _⟩
  · obtain ⟨hl, hne⟩ := name_low6 hok h1
    have ht : e.txl true = e.name.data.toList := by unfold E.txl; rw [text_eq, if_pos h1]
    refine ⟨m, Int.le_refl _, by omega, ?_⟩
    rw [ht]
    have hd : (e.name.data.toList ++ r).dropWhile isLow = r := by
      have : ∀ l : List UInt8, (∀ c ∈ l, isLow c = true) → (l ++ r).dropWhile isLow = r := by
        intro l
        induction l with
        | nil =>
          intro _
          cases r with
          | nil => rfl
          | cons c r => simp [List.dropWhile, hr c rfl]
        | cons x l ih =>
          intro h
          simp [List.dropWhile, h x (by simp), ih fun c hc => h c (by simp [hc])]
      exact this _ hl
    have hh : ∀ x : UInt8, isLow x = false → (e.name.data.toList ++ r).head? ≠ some x := by
      intro x hx
      cases hnl : e.name.data.toList with
      | nil => exact absurd hnl hne
      | cons c l =>
        simp
        intro hc
        subst hc
        rw [hl c (by rw [hnl]; simp)] at hx
        cases hx
    have p1 : hasPre (B (e.name.data.toList ++ r)) ⟨#[40, 41]⟩ = false := by
      cases hq : hasPre (B (e.name.data.toList ++ r)) ⟨#[40, 41]⟩ with
      | false => rfl
      | true =>
        obtain ⟨z, hz⟩ := (hp_iff _ [40, 41]).1 hq
        exact absurd (by rw [hz]; rfl) (hh 40 (by decide))
    have p2 : hasPre (B (e.name.data.toList ++ r)) ⟨#[40]⟩ = false := hp_one_no (hh 40 (by decide))
    have htl : tl (B (e.name.data.toList ++ r)) = B r := by rw [tl_B, hd]
    have hex : (B (e.name.data.toList ++ r)).extract 0 ((B (e.name.data.toList ++ r)).size - (B r).size) = e.name := by
      refine ext_list ?_
      rw [extract_list, B_list, B_size, B_size]
      simp
    unfold baseF
    simp only [p1, St.cut, cp_no p1, p2, cp_no p2, htl, hex]
    conv => rhs; rw [hmk, h1, hk]
    rfl
  · by_cases hk : e.kids = []
    · have ht : e.txl true = [40, 41] := by unfold E.txl; rw [text_eq, if_neg (by omega), if_pos h1, if_pos (by rw [hk]; rfl)]
      refine ⟨m, Int.le_refl _, by omega, ?_⟩
      rw [ht]
      unfold baseF
      have p1 := hp_yes [40, 41] r
      simp only [show hasPre (B ([40, 41] ++ r)) ⟨#[40, 41]⟩ = true from p1, St.cut, show cutPre (B ([40, 41] ++ r)) ⟨#[40, 41]⟩ = B r from cp_yes [40, 41] r]
      conv => rhs; rw [hmk, h1, hk, hn]
      rfl
    · refine bracket ?_ (.inr ⟨h1, hk⟩)
      have ht : ∀ b, e.text b = par b (joinB (e.kids.map fun k => k.text (!decide (e.op = 97))) ⟨#[32]⟩) := fun b => by
        rw [text_eq, if_neg (by omega), if_pos h1, if_neg (by simpa using hk)]
      unfold E.txl
      rw [ht, ht, par_list, par_list]
      simp
  · refine bracket ?_ (.inl h1)
    have ht : ∀ b, e.text b = par b (joinB (e.kids.map fun k => k.text (!decide (e.op = 97))) ⟨#[124]⟩) := fun b => by
      rw [text_eq, if_neg (by omega), if_neg (by omega), if_pos h1]
    unfold E.txl
    rw [ht, ht, par_list, par_list]
    simp
  · exfalso
    simp [E.suffix] at hsx
    omega
theorem sfx_none (e : E) (r : List UInt8) (m : Int) (hr : Cend r) : sfx e [42, 43, 63] ⟨B r, false, m⟩ = (e, ⟨B r, false, m⟩) := by
  have h : ∀ c : UInt8, (c = 42 ∨ c = 43 ∨ c = 63) → hasPre (B r) (B [c]) = false := by
    intro c hc
    refine hp_one_no fun hh => ?_
    have := hr c hh
    rcases hc with rfl | rfl | rfl
    · exact this.2.1 rfl
    · exact this.2.2.1 rfl
    · exact this.2.2.2 rfl
  have h1 : hasPre (B r) ⟨#[42]⟩ = false := h 42 (by simp)
  have h2 : hasPre (B r) ⟨#[43]⟩ = false := h 43 (by simp)
  have h3 : hasPre (B r) ⟨#[63]⟩ = false := h 63 (by simp)
  simp only [sfx, enc42, enc43, enc63, h1, h2, h3, St.cut, cp_no h1, cp_no h2, cp_no h3]
  rfl
theorem sfx_one (e : E) (o : Int) (c : UInt8) (ho : (o = 42 ∧ c = 42) ∨ (o = 43 ∧ c = 43) ∨ (o = 63 ∧ c = 63)) (r : List UInt8) (m : Int) : sfx e [42, 43, 63] ⟨B (c :: r), false, m⟩ = (.mk o ⟨#[]⟩ [e], ⟨B r, false, m⟩) := by
  have hy := hp_yes [c] r
  have hc := cp_yes [c] r
  have hn : ∀ d : UInt8, d ≠ c → hasPre (B (c :: r)) (B [d]) = false := fun d hd => hp_one_no (by simp; exact fun h => hd h.symm)
  rcases ho with ⟨rfl, rfl⟩ | ⟨rfl, rfl⟩ | ⟨rfl, rfl⟩
  · have h1 : hasPre (B (42 :: r)) ⟨#[42]⟩ = true := hy
    have h2 : cutPre (B (42 :: r)) ⟨#[42]⟩ = B r := hc
    simp only [sfx, enc42, h1, St.cut, h2]
    rfl
  · have h1 : hasPre (B (43 :: r)) ⟨#[43]⟩ = true := hy
    have h2 : cutPre (B (43 :: r)) ⟨#[43]⟩ = B r := hc
    have h3 : hasPre (B (43 :: r)) ⟨#[42]⟩ = false := hn 42 (by decide)
    simp only [sfx, enc42, enc43, h1, St.cut, h2, h3, cp_no h3]
    rfl
  · have h1 : hasPre (B (63 :: r)) ⟨#[63]⟩ = true := hy
    have h2 : cutPre (B (63 :: r)) ⟨#[63]⟩ = B r := hc
    have h3 : hasPre (B (63 :: r)) ⟨#[42]⟩ = false := hn 42 (by decide)
    have h4 : hasPre (B (63 :: r)) ⟨#[43]⟩ = false := hn 43 (by decide)
    simp only [sfx, enc42, enc43, enc63, h1, St.cut, h2, h3, cp_no h3, h4, cp_no h4]
    rfl
theorem enc_op {o : Int} (h : o = 42 ∨ o = 43 ∨ o = 63) : ∃ c : UInt8, Utf8.encode (wr .i32 o) = B [c] ∧ ((o = 42 ∧ c = 42) ∨ (o = 43 ∧ c = 43) ∨ (o = 63 ∧ c = 63)) ∧ isLow c = false := by
  rcases h with rfl | rfl | rfl
  · exact ⟨42, enc42, by simp, by decide⟩
  · exact ⟨43, enc43, by simp, by decide⟩
  · exact ⟨63, enc63, by simp, by decide⟩
/-- Each item is read as it was written, whatever fuel is left, if there is enough. -/
theorem item_reads : ∀ (n : Nat) (e : E), e.cnt ≤ n → e.ok = true → ∀ k, e.cnt ≤ k → Reads (itemN tl k) (e.txl true) e e.cnt Cend
  | 0, e, hn, _, _, _ => by have := cnt_eq e; omega
  | n + 1, e, hn, hok, k, hk => by
    have hc := cnt_eq e
    obtain ⟨k, rfl⟩ : ∃ j, k = j + 1 := ⟨k - 1, by omega⟩
    have IH : ∀ y : E, y.cnt < e.cnt → y.ok = true → Reads (itemN tl k) (y.txl true) y y.cnt Cend := fun y hy hyo => item_reads n y (by omega) hyo k (by omega)
    -- a sequence or less, of which all items are smaller
    have SQ : ∀ y : E, y.cnt < e.cnt → y.ok = true → y.op ≠ 97 → Reads (seqR k) (y.txl false) y y.cnt Cseq := fun y hy hyo hna =>
      seq_reads k y hyo hna (fun _ => IH y hy hyo) (fun h115 z hz => IH z (by have := cnt_kid hz; omega) (E.ok_kids hyo (by omega) z hz).1) y.cnt (fun _ => by omega) (fun _ => Nat.le_refl _)
    have AL : ∀ y : E, y.cnt ≤ e.cnt → y.ok = true → (y.op = 97 ∨ (y.op = 115 ∧ y.kids ≠ [])) → Reads (altR k) (y.txl false) y (y.cnt - 1) Calt := fun y hy hyo hop => by
      refine alt_reads k y hyo (y.cnt - 1) (fun h97 => ?_) (fun h97 z hz => ?_) (fun _ => Nat.le_refl _)
      · have h115 : y.op = 115 ∧ y.kids ≠ [] := by rcases hop with h | h; exact absurd h h97; exact h
        exact seq_reads k y hyo h97 (fun h => by rcases h with h | h; exact absurd h115.1 h; exact absurd h h115.2) (fun _ z hz => IH z (by have := cnt_kid hz; omega) (E.ok_kids hyo (by omega) z hz).1) (y.cnt - 1) (fun _ => Nat.le_refl _) (fun h => absurd h115 h)
      · have hz' := E.ok_kids hyo (by omega) z hz
        exact SQ z (by have := cnt_kid hz; omega) hz'.1 (by rw [← h97]; exact hz'.2)
    intro r m hr h0 hm
    have hw : wr .i64 (m + 1) = m + 1 := wr64 _ (by omega)
    have h48 : ¬ 48 < m + 1 := by omega
    cases hsx : e.suffix with
    | false =>
      obtain ⟨m', a, b, h⟩ := base_reads k e hok hsx (AL e (Nat.le_refl _) hok) r (m + 1) (fun c hc => (hr c hc).1) (by omega) (by omega)
      refine ⟨m', by omega, by omega, ?_⟩
      simp only [itemN, itemF, hw, if_neg h48]
      rw [h]
      exact sfx_none e r m' hr
    | true =>
      rcases E.ok_ops hok with ⟨h1, _⟩ | ⟨h1, _⟩ | ⟨h1, _⟩ | ⟨h1, hn', x, h2, hx⟩
      · simp [E.suffix, h1] at hsx
      · simp [E.suffix, h1] at hsx
      · simp [E.suffix, h1] at hsx
      · obtain ⟨c, q1, q2, q3⟩ := enc_op (o := e.op) (by omega)
        have hxo := (E.ok_kids hok (by omega) x (by rw [h2]; simp)).1
        have hcx : e.cnt = 1 + x.cnt := by rw [hc, h2]; simp
        have ht : e.txl true = x.txl true ++ [c] := by
          unfold E.txl
          rw [text_eq, if_neg (by omega), if_neg (by omega), if_neg (by omega), app_list, h2, q1, B_list]
          have e1 : joinB ([x].map fun z => z.text (!decide (e.op = 97))) ⟨#[]⟩ = x.text (!decide (e.op = 97)) := ext_list (by simp [joinB, Lib.join_one])
          have e2 : (!decide (e.op = 97)) = true := by simp; omega
          rw [e1, e2]
        obtain ⟨m', a, b, h⟩ := base_reads k x hxo hx (AL x (by omega) hxo) (c :: r) (m + 1) (fun d hd => by simp at hd; subst hd; exact q3) (by omega) (by omega)
        refine ⟨m', by omega, by omega, ?_⟩
        have he : e = .mk e.op ⟨#[]⟩ [x] := by
          obtain ⟨o, nn, ks⟩ := e
          simp only [E.name, E.kids] at hn' h2
          rw [hn', h2]
          rfl
        simp only [itemN, itemF, hw, if_neg h48]
        rw [ht, List.append_assoc]
        show sfx (baseF tl (altR k) ⟨B (x.txl true ++ ([c] ++ r)), false, m + 1⟩).1 _ (baseF tl (altR k) ⟨B (x.txl true ++ ([c] ++ r)), false, m + 1⟩).2 = _
        rw [show ([c] ++ r : List UInt8) = c :: r from rfl, h, sfx_one x e.op c q2 r m']
        conv => rhs; rw [he]
/-- WRITTEN AND READ: as it was. -/
theorem parse_text (e : E) (hr : e.right = true) (hc : e.cnt ≤ 1000) : parse (e.text false) = (e, 0) := by
  have hok : e.ok = true := by simp [E.right] at hr; exact hr.2
  have h24 : e.cnt ≤ 24 := by
    simp [E.right] at hr
    have := many_cnt e (by omega)
    omega
  have IT : ∀ y : E, y.cnt ≤ 24 → y.ok = true → Reads (itemN tl 49) (y.txl true) y y.cnt Cend := fun y hy hyo => item_reads 24 y hy hyo 49 (by omega)
  have SQ : ∀ y : E, y.cnt ≤ 24 → y.ok = true → y.op ≠ 97 → Reads (seqR 49) (y.txl false) y y.cnt Cseq := fun y hy hyo hna =>
    seq_reads 49 y hyo hna (fun _ => IT y hy hyo) (fun h115 z hz => IT z (by have := cnt_kid hz; omega) (E.ok_kids hyo (by omega) z hz).1) y.cnt (fun _ => by omega) (fun _ => Nat.le_refl _)
  have AL := alt_reads 49 e hok e.cnt (fun h => SQ e h24 hok h) (fun h97 z hz => by
    have hz' := E.ok_kids hok (by omega) z hz
    exact SQ z (by have := cnt_kid hz; omega) hz'.1 (by rw [← h97]; exact hz'.2)) (fun _ => by omega)
  obtain ⟨m', _, _, h⟩ := AL [] 0 ⟨⟨fun c hc => by simp at hc, by simp⟩, by simp⟩ (by omega) (by omega)
  have hread : read (e.text false) = (e, ⟨B [], false, m'⟩) := by
    have : e.text false = B (e.txl false ++ []) := by rw [List.append_nil, B_data]
    rw [this]
    exact h
  unfold parse
  rw [hread]
  simp [hr]
end Go.Proofs.D
