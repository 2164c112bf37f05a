/-
  TEXTS OF STATES: what is written alike is the same.
-/
import Derived.Test.YtciibpfhjfegnaaGreatDoorL8
import Derived.Test.YtciibpfhjfegnaaGreatDoorL6
import Derived.Test.YtciibpfhjfegnaaGreatDoorL5
set_option linter.unusedVariables false
set_option linter.unusedSimpArgs false
namespace Go.Proofs.D
open Go Go.Abs
/-- A sign that stands in no text of an expression's, to divide by. -/
def NoSep (c : UInt8) : Prop := c ≠ 44 ∧ c ≠ 59
theorem low_sep {c : UInt8} (h : isLow c = true) : NoSep c := by
  constructor <;> (intro e; subst e; cases h)
theorem joinTail_mem (sep : List UInt8) (c : UInt8) : ∀ r : List (List UInt8), c ∈ Lib.joinTail sep r → c ∈ sep ∨ ∃ x ∈ r, c ∈ x
  | [], h => by simp [Lib.joinTail] at h
  | y :: r, h => by
    have e : Lib.joinTail sep (y :: r) = sep ++ y ++ Lib.joinTail sep r := by simp [Lib.joinTail]
    rw [e] at h
    rcases List.mem_append.1 h with h | h
    · rcases List.mem_append.1 h with h | h
      · exact .inl h
      · exact .inr ⟨y, by simp, h⟩
    · rcases joinTail_mem sep c r h with h | ⟨x, hx, h⟩
      · exact .inl h
      · exact .inr ⟨x, by simp [hx], h⟩
theorem join_mem (sep : List UInt8) (c : UInt8) (l : List (List UInt8)) (h : c ∈ Lib.join l sep) : c ∈ sep ∨ ∃ x ∈ l, c ∈ x := by
  cases l with
  | nil => cases h
  | cons x r =>
    rw [Lib.join_cons] at h
    rcases List.mem_append.1 h with h | h
    · exact .inr ⟨x, by simp, h⟩
    · rcases joinTail_mem sep c r h with h | ⟨y, hy, h⟩
      · exact .inl h
      · exact .inr ⟨y, by simp [hy], h⟩
theorem joinB_mem (l : List ByteArray) (sep : ByteArray) (c : UInt8) (h : c ∈ (joinB l sep).data.toList) : c ∈ sep.data.toList ∨ ∃ x ∈ l, c ∈ x.data.toList := by
  simp only [joinB] at h
  rcases join_mem _ _ _ h with h | ⟨x, hx, h⟩
  · exact .inl h
  · obtain ⟨y, hy, rfl⟩ := List.mem_map.1 hx
    exact .inr ⟨y, hy, h⟩
theorem text_sep (e : E) (h : e.ok = true) (b : Bool) : ∀ c ∈ e.txl b, NoSep c := by
  have hkid : ∀ k ∈ e.kids, ¬ e.op = 110 → ∀ b, ∀ c ∈ k.txl b, NoSep c := fun k hk h1 b => text_sep k (E.ok_kids h h1 k hk).1 b
  have hj : ¬ e.op = 110 → ∀ (sep : ByteArray) (b : Bool), (∀ c ∈ sep.data.toList, NoSep c) → ∀ c ∈ (joinB (e.kids.map fun k => k.text b) sep).data.toList, NoSep c := fun h1 sep b hs c hc => by
    rcases joinB_mem _ _ _ hc with hc | ⟨x, hx, hc⟩
    · exact hs c hc
    · obtain ⟨k, hk, rfl⟩ := List.mem_map.1 hx
      exact hkid k hk h1 b c hc
  have hpar : ∀ (b : Bool) (s : ByteArray), (∀ c ∈ s.data.toList, NoSep c) → ∀ c ∈ (par b s).data.toList, NoSep c := fun b s hs c hc => by
    rw [par_list] at hc
    split at hc
    · rcases List.mem_cons.1 hc with rfl | hc
      · constructor <;> decide
      · rcases List.mem_append.1 hc with hc | hc
        · exact hs c hc
        · simp at hc; subst hc; constructor <;> decide
    · exact hs c hc
  have one : ∀ d : UInt8, NoSep d → ∀ c ∈ (⟨#[d]⟩ : ByteArray).data.toList, NoSep c := fun d hd c hc => by
    simp at hc; subst hc; exact hd
  intro c hc
  unfold E.txl at hc
  rw [text_eq] at hc
  by_cases h1 : e.op = 110
  · rw [if_pos h1] at hc
    exact low_sep ((name_low6 h h1).1 c hc)
  · rw [if_neg h1] at hc
    by_cases h2 : e.op = 115
    · rw [if_pos h2] at hc
      split at hc
      · simp at hc
        rcases hc with rfl | rfl <;> (constructor <;> decide)
      · exact hpar _ _ (hj h1 _ _ (one 32 ⟨by decide, by decide⟩)) c hc
    · rw [if_neg h2] at hc
      by_cases h3 : e.op = 97
      · rw [if_pos h3] at hc
        exact hpar _ _ (hj h1 _ _ (one 124 ⟨by decide, by decide⟩)) c hc
      · rw [if_neg h3, app_list] at hc
        rcases List.mem_append.1 hc with hc | hc
        · exact hj h1 _ _ (by simp) c hc
        · rcases E.ok_opsS h h1 h2 h3 with g | g | g
          · rw [g, enc42] at hc; exact one 42 ⟨by decide, by decide⟩ c hc
          · rw [g, enc43] at hc; exact one 43 ⟨by decide, by decide⟩ c hc
          · rw [g, enc63] at hc; exact one 63 ⟨by decide, by decide⟩ c hc
termination_by SizeOf.sizeOf e
decreasing_by exact E.kids_lt hk
/-- What stands ahead of a sign that divides. -/
theorem sep_split (c : UInt8) : ∀ {x y t u : List UInt8}, c ∉ x → c ∉ y → (t = [] ∨ t.head? = some c) → (u = [] ∨ u.head? = some c) → x ++ t = y ++ u → x = y ∧ t = u
  | [], [], t, u, _, _, _, _, h => ⟨rfl, h⟩
  | [], b :: y, t, u, _, hy, ht, _, h => by
    exfalso
    simp only [List.nil_append, List.cons_append] at h
    rcases ht with rfl | ht
    · cases h
    · rw [h] at ht
      simp at ht
      exact hy (by simp [ht])
  | a :: x, [], t, u, hx, _, _, hu, h => by
    exfalso
    simp only [List.nil_append, List.cons_append] at h
    rcases hu with rfl | hu
    · cases h
    · rw [← h] at hu
      simp at hu
      exact hx (by simp [hu])
  | a :: x, b :: y, t, u, hx, hy, ht, hu, h => by
    simp only [List.cons_append, List.cons.injEq] at h
    obtain ⟨rfl, h⟩ := h
    obtain ⟨h1, h2⟩ := sep_split c (fun q => hx (by simp [q])) (fun q => hy (by simp [q])) ht hu h
    exact ⟨by rw [h1], h2⟩
theorem joinTail_head (c : UInt8) (r : List (List UInt8)) : Lib.joinTail [c] r = [] ∨ (Lib.joinTail [c] r).head? = some c := by
  cases r with
  | nil => exact .inl rfl
  | cons y r => exact .inr (by simp [Lib.joinTail])
theorem joinTail_inj (c : UInt8) : ∀ {l m : List (List UInt8)}, (∀ x ∈ l, c ∉ x) → (∀ x ∈ m, c ∉ x) → Lib.joinTail [c] l = Lib.joinTail [c] m → l = m
  | [], [], _, _, _ => rfl
  | [], y :: m, _, _, h => by simp [Lib.joinTail] at h
  | x :: l, [], _, _, h => by simp [Lib.joinTail] at h
  | x :: l, y :: m, hl, hm, h => by
    have e : ∀ (z : List UInt8) (r : List (List UInt8)), Lib.joinTail [c] (z :: r) = c :: (z ++ Lib.joinTail [c] r) := fun z r => by simp [Lib.joinTail]
    rw [e, e] at h
    obtain ⟨h1, h2⟩ := sep_split c (hl x (by simp)) (hm y (by simp)) (joinTail_head c l) (joinTail_head c m) (List.cons.inj h).2
    rw [h1, joinTail_inj c (fun z hz => hl z (by simp [hz])) (fun z hz => hm z (by simp [hz])) h2]
theorem join_inj (c : UInt8) {l m : List (List UInt8)} (hl : ∀ x ∈ l, c ∉ x) (hm : ∀ x ∈ m, c ∉ x) (h1 : l ≠ []) (h2 : m ≠ []) (h : Lib.join l [c] = Lib.join m [c]) : l = m := by
  match l, m, h1, h2 with
  | x :: l, y :: m, _, _ =>
    rw [Lib.join_cons, Lib.join_cons] at h
    obtain ⟨h3, h4⟩ := sep_split c (hl x (by simp)) (hm y (by simp)) (joinTail_head c l) (joinTail_head c m) h
    rw [h3, joinTail_inj c (fun z hz => hl z (by simp [hz])) (fun z hz => hm z (by simp [hz])) h4]
theorem joinB_inj (c : UInt8) {l m : List ByteArray} (hl : ∀ x ∈ l, c ∉ x.data.toList) (hm : ∀ x ∈ m, c ∉ x.data.toList) (h1 : l ≠ []) (h2 : m ≠ []) (h : joinB l ⟨#[c]⟩ = joinB m ⟨#[c]⟩) : l = m := by
  have h3 : Lib.join (l.map (·.data.toList)) [c] = Lib.join (m.map (·.data.toList)) [c] := by
    have := congrArg (·.data.toList) h
    simpa [joinB] using this
  have := join_inj c (l := l.map (·.data.toList)) (m := m.map (·.data.toList)) (fun x hx => by obtain ⟨y, hy, rfl⟩ := List.mem_map.1 hx; exact hl y hy) (fun x hx => by obtain ⟨y, hy, rfl⟩ := List.mem_map.1 hx; exact hm y hy) (by simpa using h1) (by simpa using h2) h3
  have h5 := congrArg (List.map fun x : List UInt8 => (⟨x.toArray⟩ : ByteArray)) this
  simpa [List.map_map, Function.comp_def] using h5
/-- Of expressions that are small enough to be right. -/
def Tame (e : E) : Prop := e.ok = true ∧ e.cnt ≤ 24
theorem tame_right {e : E} (h : Tame e) : e.right = true := by
  have := many_cnt e (by have := h.2; omega)
  have h2 := h.2
  simp only [E.right, Bool.and_eq_true, decide_eq_true_eq]
  exact ⟨by omega, h.1⟩
theorem right_tame {e : E} (h : e.right = true) (hc : e.cnt ≤ 1000000000) : Tame e := by
  have := many_cnt e hc
  simp only [E.right, Bool.and_eq_true, decide_eq_true_eq] at h
  exact ⟨h.2, by omega⟩
theorem text_inj {e f : E} (he : Tame e) (hf : Tame f) (h : e.text false = f.text false) : e = f := by
  have h1 := parse_text e (tame_right he) (by have := he.2; omega)
  have h2 := parse_text f (tame_right hf) (by have := hf.2; omega)
  rw [h, h2] at h1
  exact (Prod.mk.inj h1).1.symm
def TameR (r : Rest) : Prop := r.length ≤ 24 ∧ ∀ k ∈ r, Tame k
/-- How what is left is written. -/
def rtext (r : Rest) : ByteArray := joinB (r.map fun e => e.text false) ⟨#[44]⟩
theorem rtext_nil : rtext [] = ⟨#[]⟩ := rfl
theorem rtext_sep {r : Rest} (h : TameR r) : ∀ c ∈ (rtext r).data.toList, c ≠ 59 := fun c hc => by
  rcases joinB_mem _ _ _ hc with hc | ⟨x, hx, hc⟩
  · simp at hc; subst hc; decide
  · obtain ⟨k, hk, rfl⟩ := List.mem_map.1 hx
    exact (text_sep k (h.2 k hk).1 false c hc).2
theorem rtext_ne {k : E} {r : Rest} (h : TameR (k :: r)) : rtext (k :: r) ≠ ⟨#[]⟩ := fun e => by
  obtain ⟨c, l, h1, _⟩ := head_ok k (h.2 k (by simp)).1 false
  have h2 := congrArg (·.data.toList) e
  have h1' : (k.text false).data.toList = c :: l := h1
  simp [rtext, joinB, Lib.join_cons, h1'] at h2
theorem rtext_inj {r s : Rest} (hr : TameR r) (hs : TameR s) (h : rtext r = rtext s) : r = s := by
  match r, s, hr, hs with
  | [], [], _, _ => rfl
  | [], k :: s, _, hs => exact absurd h.symm (rtext_ne hs)
  | k :: r, [], hr, _ => exact absurd h (rtext_ne hr)
  | k :: r, j :: s, hr, hs =>
    have h1 := joinB_inj 44 (l := (k :: r).map fun e => e.text false) (m := (j :: s).map fun e => e.text false) (fun x hx q => by
      obtain ⟨e, he, rfl⟩ := List.mem_map.1 hx
      exact (text_sep e (hr.2 e he).1 false 44 q).1 rfl) (fun x hx q => by
      obtain ⟨e, he, rfl⟩ := List.mem_map.1 hx
      exact (text_sep e (hs.2 e he).1 false 44 q).1 rfl) (by simp) (by simp) (by unfold rtext at h; exact h)
    have key : ∀ (a b : List E), (∀ k ∈ a, Tame k) → (∀ k ∈ b, Tame k) → a.map (fun e => e.text false) = b.map (fun e => e.text false) → a = b := by
      intro a
      induction a with
      | nil => intro b _ _ h; cases b with
        | nil => rfl
        | cons y b => simp at h
      | cons x a ih =>
        intro b ha hb h
        cases b with
        | nil => simp at h
        | cons y b =>
          simp only [List.map_cons, List.cons.injEq] at h
          rw [text_inj (ha x (by simp)) (hb y (by simp)) h.1, ih b (fun k hk => ha k (by simp [hk])) (fun k hk => hb k (by simp [hk])) h.2]
    exact key _ _ hr.2 hs.2 h1
theorem rtext_size {r : Rest} (h : TameR r) : (rtext r).size ≤ 10000 := by
  refine Nat.le_trans (join_size _ _) ?_
  have e44 : (⟨#[44]⟩ : ByteArray).size = 1 := rfl
  simp only [List.map_map, Function.comp_def, e44]
  have key : ∀ l : List E, (∀ k ∈ l, Tame k) → (l.map fun e : E => (e.text false).size + 1).sum ≤ 385 * l.length := by
    intro l
    induction l with
    | nil => simp
    | cons x l ih =>
      intro hl
      have h1 := ih fun k hk => hl k (by simp [hk])
      have h2 := text_size x false (hl x (by simp)).1
      have h3 := (hl x (by simp)).2
      simp only [List.map_cons, List.sum_cons, List.length_cons]
      omega
  have h1 := key r h.2
  have h2 := h.1
  omega
/-- Texts in order. -/
def sortB (l : List ByteArray) : List ByteArray := ((l.map (·.data.toList)).mergeSort fun x y => decide (x ≤ y)).map fun l => ⟨l.toArray⟩
theorem sortB_perm {l m : List ByteArray} (h : l.Perm m) : sortB l = sortB m := by
  unfold sortB
  rw [sort_perm (h.map _)]
theorem sortB_of (l : List ByteArray) : (sortB l).Perm l := by
  have h := (List.mergeSort_perm (l.map (·.data.toList)) fun x y => decide (x ≤ y)).map fun l => (⟨l.toArray⟩ : ByteArray)
  simpa [sortB, List.map_map, Function.comp_def] using h
theorem sortB_len (l : List ByteArray) : (sortB l).length = l.length := (sortB_of l).length_eq
theorem sortB_mem (l : List ByteArray) (x : ByteArray) : x ∈ sortB l ↔ x ∈ l := (sortB_of l).mem_iff
/-- How a state is told from others. -/
def skeyL (l : List Rest) : ByteArray := joinB (sortB (l.map rtext)) ⟨#[59]⟩
def Lists (S : Stt) (l : List Rest) : Prop := l.Nodup ∧ ∀ r, r ∈ l ↔ S r
theorem lists_perm {S : Stt} {l m : List Rest} (h : Lists S l) (h' : Lists S m) : l.Perm m := (List.perm_ext_iff_of_nodup h.1 h'.1).2 fun r => (h.2 r).trans (h'.2 r).symm
open Classical in
theorem lists_of (S : Stt) : ∀ (U : List Rest), ∃ l : List Rest, l.Nodup ∧ ∀ r, r ∈ l ↔ r ∈ U ∧ S r
  | [] => ⟨[], by simp, by simp⟩
  | u :: U => by
    obtain ⟨l, h1, h2⟩ := lists_of S U
    by_cases h : S u ∧ u ∉ l
    · refine ⟨u :: l, List.nodup_cons.2 ⟨h.2, h1⟩, fun r => ?_⟩
      simp only [List.mem_cons, h2 r]
      constructor
      · rintro (rfl | ⟨g1, g2⟩)
        · exact ⟨.inl rfl, h.1⟩
        · exact ⟨.inr g1, g2⟩
      · rintro ⟨rfl | g1, g2⟩
        · exact .inl rfl
        · exact .inr ⟨g1, g2⟩
    · refine ⟨l, h1, fun r => ?_⟩
      simp only [List.mem_cons, h2 r]
      constructor
      · rintro ⟨g1, g2⟩; exact ⟨.inr g1, g2⟩
      · rintro ⟨rfl | g1, g2⟩
        · have h3 : r ∈ l := Classical.byContradiction fun q => h ⟨g2, q⟩
          exact (h2 r).1 h3
        · exact ⟨g1, g2⟩
theorem lists_some {e : E} {S : Stt} (h : ∀ r, S r → r ∈ pdAll e) : ∃ l, Lists S l := by
  obtain ⟨l, h1, h2⟩ := lists_of S (pdAll e)
  exact ⟨l, h1, fun r => (h2 r).trans ⟨fun q => q.2, fun q => ⟨h r q, q⟩⟩⟩
theorem lists_len {e : E} (hc : e.cnt ≤ 24) {S : Stt} (h : ∀ r, S r → r ∈ pdAll e) {l : List Rest} (hl : Lists S l) : l.length ≤ 24 :=
  Nat.le_trans (nodup_sub_len l (pdAll e) hl.1 fun r hr => h r ((hl.2 r).1 hr)) (pdAll_leaves hc)
theorem pdAll_tame {e : E} (h : Tame e) : ∀ r ∈ pdAll e, TameR r := fun r hr => by
  obtain ⟨h1, h2⟩ := pdAll_ok h.1 r hr
  have := h.2
  exact ⟨by omega, fun k hk => ⟨(h2 k hk).1, by have := (h2 k hk).2; omega⟩⟩
open Classical in
noncomputable def skey (S : Stt) : ByteArray := if h : ∃ l, Lists S l then skeyL h.choose else ⟨#[]⟩
theorem skeyL_perm {l m : List Rest} (h : l.Perm m) : skeyL l = skeyL m := by
  unfold skeyL
  rw [sortB_perm (h.map _)]
theorem skey_eq {S : Stt} {l : List Rest} (h : Lists S l) : skey S = skeyL l := by
  have hx : ∃ l, Lists S l := ⟨l, h⟩
  unfold skey
  rw [dif_pos hx]
  exact skeyL_perm (lists_perm hx.choose_spec h)
theorem skey_inj {e : E} (h : Tame e) {S T : Stt} (hS : OfE e S) (hT : OfE e T) (hk : skey S = skey T) : S = T := by
  obtain ⟨l, hl⟩ := lists_some hS.1
  obtain ⟨m, hm⟩ := lists_some hT.1
  rw [skey_eq hl, skey_eq hm] at hk
  have tl : ∀ r ∈ l, TameR r := fun r hr => pdAll_tame h r (hS.1 r ((hl.2 r).1 hr))
  have tm : ∀ r ∈ m, TameR r := fun r hr => pdAll_tame h r (hT.1 r ((hm.2 r).1 hr))
  have hne : ∀ {S : Stt} {l : List Rest}, OfE e S → Lists S l → sortB (l.map rtext) ≠ [] := fun {S l} hS hl q => by
    obtain ⟨r, hr⟩ := hS.2
    have h1 := congrArg List.length q
    rw [sortB_len] at h1
    have h2 := List.length_pos_of_mem ((hl.2 r).2 hr)
    simp at h1
    subst h1
    simp at h2
  have key := joinB_inj 59 (fun x hx q => by
    rw [sortB_mem] at hx
    obtain ⟨r, hr, rfl⟩ := List.mem_map.1 hx
    exact rtext_sep (tl r hr) 59 q rfl) (fun x hx q => by
    rw [sortB_mem] at hx
    obtain ⟨r, hr, rfl⟩ := List.mem_map.1 hx
    exact rtext_sep (tm r hr) 59 q rfl) (hne hS hl) (hne hT hm) hk
  have hmem : ∀ x, x ∈ l.map rtext ↔ x ∈ m.map rtext := fun x => by rw [← sortB_mem, ← sortB_mem (m.map rtext), key]
  funext r
  apply propext
  constructor
  · intro hr
    obtain ⟨s, hs, he⟩ := List.mem_map.1 ((hmem (rtext r)).1 (List.mem_map.2 ⟨r, (hl.2 r).2 hr, rfl⟩))
    rw [← rtext_inj (tm s hs) (tl r ((hl.2 r).2 hr)) he]
    exact (hm.2 s).1 hs
  · intro hr
    obtain ⟨s, hs, he⟩ := List.mem_map.1 ((hmem (rtext r)).2 (List.mem_map.2 ⟨r, (hm.2 r).2 hr, rfl⟩))
    rw [← rtext_inj (tl s hs) (tm r ((hm.2 r).2 hr)) he]
    exact (hl.2 s).1 hs
end Go.Proofs.D
/-
  THE PLACES OF AN EXPRESSION mean what it means.
-/
set_option linter.unusedVariables false
set_option linter.unusedSimpArgs false
namespace Go.Proofs.D
open Go Go.Abs
theorem nodup_rises {l : List Nat} (h : Rises l) : l.Nodup := h.imp fun h => Nat.ne_of_lt h
theorem More.trans {P Q R : Pl} (h : More P Q) (h' : More Q R) : More P R := by
  obtain ⟨m, e⟩ := h.names
  obtain ⟨m', e'⟩ := h'.names
  refine ⟨⟨m ++ m', by rw [e', e, List.append_assoc]⟩, fun x hx => ?_⟩
  rw [h'.behind x (by rw [e, List.length_append]; omega), h.behind x hx]
theorem nm_of {P Q : Pl} (h : More P Q) {nm : Nat → Option ByteArray} {n0 : Nat} (hn : ∀ x, n0 ≤ x → x < Q.names.length → nm x = Q.names[x]?) : ∀ x, n0 ≤ x → x < P.names.length → nm x = P.names[x]? := by
  obtain ⟨m, e⟩ := h.names
  intro x h0 hx
  rw [hn x h0 (by rw [e, List.length_append]; omega), e, List.getElem?_append_left hx]
theorem good_step {op : Int} (hop : ¬ op = 97) {P : Pl} {st r : Pr} {Ls Lk : Row → Prop} (hne : ∃ v, Lk v) (hP : More P st.pl) (h : Good P.names.length st Ls) (hr : Good st.pl.names.length r Lk) (hm : More st.pl r.pl) :
    Good P.names.length (plStep op st r) (fun w => ∃ u v, w = u ++ v ∧ Ls u ∧ Lk v) ∧ More P (plStep op st r).pl := by
  obtain ⟨mm, em⟩ := hm.names
  have hn12 : st.pl.names.length ≤ r.pl.names.length := by rw [em, List.length_append]; omega
  have hlast : ∀ x ∈ st.last, x < r.pl.behind.length := fun x hx => by rw [hr.len]; have := (h.lb x hx).2; omega
  have hB : ∀ y, (updB r.pl.behind st.last r.first).getD y [] = if y ∈ st.last then putN (r.pl.behind.getD y []) r.first else r.pl.behind.getD y [] := updB_get _ _ _ hlast (nodup_rises h.lr)
  have e : plStep op st r = ⟨⟨r.pl.names, updB r.pl.behind st.last r.first⟩, if st.empty = true then putN st.first r.first else st.first, if r.empty = true then putN st.last r.last else r.last, st.empty && r.empty⟩ := by rw [plStep, if_neg hop]
  rw [e]
  have hold : ∀ x, x < st.pl.names.length → r.pl.behind.getD x [] = st.pl.behind.getD x [] := hm.behind
  have h0 := h.from0
  let D : Nat → Prop := fun x => P.names.length ≤ x ∧ x < r.pl.names.length
  have c2 : ∀ x, D x → ((· ∈ (if r.empty = true then putN st.last r.last else r.last)) x ↔ catL (· ∈ st.last) (· ∈ r.last) r.empty x) := fun x hx => by
    show x ∈ (if r.empty = true then putN st.last r.last else r.last) ↔ (x ∈ r.last ∨ (r.empty = true ∧ x ∈ st.last))
    split
    · rename_i he; rw [mem_put]; simp [he]; exact or_comm
    · rename_i he; simp [he]
  have c3 : ∀ x y, D x → ((fun x y => y ∈ (updB r.pl.behind st.last r.first).getD x []) x y ↔ catR (fun x => P.names.length ≤ x ∧ x < st.pl.names.length) (fun x => st.pl.names.length ≤ x ∧ x < r.pl.names.length) (· ∈ st.last) (· ∈ r.first) (fun x y => y ∈ st.pl.behind.getD x []) (fun x y => y ∈ r.pl.behind.getD x []) x y) := fun x y hx => by
    show y ∈ (updB r.pl.behind st.last r.first).getD x [] ↔ _
    have hx : P.names.length ≤ x ∧ x < r.pl.names.length := hx
    rw [hB x]
    unfold catR
    by_cases hl : x ∈ st.last
    · have hlt := (h.lb x hl).2
      rw [if_pos hl, mem_put, hold x hlt]
      constructor
      · rintro (h1 | h1)
        · exact .inl ⟨⟨hx.1, hlt⟩, h1⟩
        · exact .inr (.inr ⟨hl, h1⟩)
      · rintro (⟨_, h1⟩ | ⟨h1, _⟩ | ⟨_, h1⟩)
        · exact .inl h1
        · omega
        · exact .inr h1
    · rw [if_neg hl]
      by_cases hlt : x < st.pl.names.length
      · rw [hold x hlt]
        constructor
        · exact fun h1 => .inl ⟨⟨hx.1, hlt⟩, h1⟩
        · rintro (⟨_, h1⟩ | ⟨h1, _⟩ | ⟨h1, _⟩)
          · exact h1
          · omega
          · exact absurd h1 hl
      · constructor
        · exact fun h1 => .inr (.inl ⟨⟨by omega, hx.2⟩, h1⟩)
        · rintro (⟨h1, _⟩ | ⟨_, h1⟩ | ⟨h1, _⟩)
          · omega
          · exact h1
          · exact absurd h1 hl
  have c4 : ∀ x y, D x → (fun x y => y ∈ (updB r.pl.behind st.last r.first).getD x []) x y → D y := fun x y hx hy => by
    have hy : y ∈ (updB r.pl.behind st.last r.first).getD x [] := hy
    have hx : P.names.length ≤ x ∧ x < r.pl.names.length := hx
    show P.names.length ≤ y ∧ y < r.pl.names.length
    rw [hB x] at hy
    have hy : y ∈ r.pl.behind.getD x [] ∨ y ∈ r.first := by
      split at hy
      · exact (mem_put y _ _).1 hy
      · exact .inl hy
    rcases hy with hy | hy
    · by_cases hlt : x < st.pl.names.length
      · rw [hold x hlt] at hy
        have := h.bb x hx.1 y hy; omega
      · have := hr.bb x (by omega) y hy; omega
    · have := hr.fb y hy; omega
  refine ⟨⟨?_, ?_, ?_, ?_, ?_, ?_, ?_, ?_, ?_, ?_⟩, ?_⟩
  · show (updB _ _ _).length = _
    rw [updB_len]; exact hr.len
  · show P.names.length ≤ r.pl.names.length
    omega
  · show Rises (if _ then _ else _)
    split
    · exact put_rises h.fr hr.fr
    · exact h.fr
  · show Rises (if _ then _ else _)
    split
    · exact put_rises h.lr hr.lr
    · exact hr.lr
  · intro x hx
    have hx : x ∈ (if st.empty = true then putN st.first r.first else st.first) := hx
    show P.names.length ≤ x ∧ x < r.pl.names.length
    have hx : x ∈ st.first ∨ x ∈ r.first := by
      split at hx
      · exact (mem_put x _ _).1 hx
      · exact .inl hx
    rcases hx with hx | hx
    · have := h.fb x hx; omega
    · have := hr.fb x hx; omega
  · intro x hx
    have hx : x ∈ (if r.empty = true then putN st.last r.last else r.last) := hx
    show P.names.length ≤ x ∧ x < r.pl.names.length
    have hx : x ∈ st.last ∨ x ∈ r.last := by
      split at hx
      · exact (mem_put x _ _).1 hx
      · exact .inr hx
    rcases hx with hx | hx
    · have := h.lb x hx; omega
    · have := hr.lb x hx; omega
  · intro x hx
    show Rises ((updB _ _ _).getD x [])
    rw [hB x]
    have : Rises (r.pl.behind.getD x []) := by
      by_cases hlt : x < st.pl.names.length
      · rw [hold x hlt]; exact h.br x hx
      · exact hr.br x (by omega)
    split
    · exact put_rises this hr.fr
    · exact this
  · intro x hx y hy
    have hy : y ∈ (updB r.pl.behind st.last r.first).getD x [] := hy
    show P.names.length ≤ y ∧ y < r.pl.names.length
    rw [hB x] at hy
    have hy : y ∈ r.pl.behind.getD x [] ∨ y ∈ r.first := by
      split at hy
      · exact (mem_put y _ _).1 hy
      · exact .inl hy
    rcases hy with hy | hy
    · by_cases hlt : x < st.pl.names.length
      · rw [hold x hlt] at hy
        have := h.bb x hx y hy; omega
      · have := hr.bb x (by omega) y hy; omega
    · have := hr.fb y hy; omega
  · intro nm hnm w
    have hnm : ∀ x, P.names.length ≤ x → x < r.pl.names.length → nm x = r.pl.names[x]? := hnm
    have m1 := h.mean nm (nm_of hm hnm)
    have m2 := hr.mean nm (fun x hx hx' => hnm x (by omega) hx')
    have hcat := LG_cat nm (fun x => P.names.length ≤ x ∧ x < st.pl.names.length) (fun x => st.pl.names.length ≤ x ∧ x < r.pl.names.length) (fun x hx hx' => by omega) (· ∈ st.first) (· ∈ st.last) (· ∈ r.first) (· ∈ r.last)
      (fun x y => y ∈ st.pl.behind.getD x []) (fun x y => y ∈ r.pl.behind.getD x []) st.empty r.empty h.fb h.lb (fun x y hx hy => h.bb x hx.1 y hy) hr.fb hr.lb (fun x y hx hy => hr.bb x hx.1 y hy) w
    have hc := LG_congr (nm := nm) (nm' := nm) (F := (· ∈ (if st.empty = true then putN st.first r.first else st.first))) (F' := catF (· ∈ st.first) (· ∈ r.first) st.empty) (eps := st.empty && r.empty) D (fun x => by
        show x ∈ (if st.empty = true then putN st.first r.first else st.first) ↔ (x ∈ st.first ∨ (st.empty = true ∧ x ∈ r.first))
        split
        · rename_i he; rw [mem_put]; simp [he]
        · rename_i he; simp [he])
      (fun x hx => by
        have hx : x ∈ (if st.empty = true then putN st.first r.first else st.first) := hx
        have hx : x ∈ st.first ∨ x ∈ r.first := by
          split at hx
          · exact (mem_put x _ _).1 hx
          · exact .inl hx
        show P.names.length ≤ x ∧ x < r.pl.names.length
        rcases hx with hx | hx
        · have := h.fb x hx; omega
        · have := hr.fb x hx; omega)
      (fun _ _ => rfl) c2 c3 c4 w
    show (∃ u v, w = u ++ v ∧ Ls u ∧ Lk v) ↔ LG nm _ _ _ (st.empty && r.empty) w
    refine Iff.trans ?_ hc.symm
    refine Iff.trans ?_ hcat.symm
    constructor
    · rintro ⟨u, v, e, a, b⟩; exact ⟨u, v, e, (m1 u).1 a, (m2 v).1 b⟩
    · rintro ⟨u, v, e, a, b⟩; exact ⟨u, v, e, (m1 u).2 a, (m2 v).2 b⟩
  · intro nm hnm x hx hx'
    have hnm : ∀ x, P.names.length ≤ x → x < r.pl.names.length → nm x = r.pl.names[x]? := hnm
    have hx' : x < r.pl.names.length := hx'
    have hp := fun w => pathF_congr (nm := nm) (nm' := nm) D (fun _ _ => rfl) c2 c3 c4 w x ⟨hx, hx'⟩
    have m2 := hr.mean nm (fun x hx hx' => hnm x (by omega) hx')
    by_cases hlt : x < st.pl.names.length
    · obtain ⟨u, hu⟩ := h.live nm (nm_of hm hnm) x hx hlt
      obtain ⟨v, hv⟩ := hne
      refine ⟨u ++ v, (hp (u ++ v)).2 ((cat_left nm (fun x => P.names.length ≤ x ∧ x < st.pl.names.length) (fun x => st.pl.names.length ≤ x ∧ x < r.pl.names.length) (fun x hx hx' => by omega) (· ∈ st.last) (· ∈ r.first) (· ∈ r.last)
        (fun x y => y ∈ st.pl.behind.getD x []) (fun x y => y ∈ r.pl.behind.getD x []) r.empty h.lb (fun x y hx hy => h.bb x hx.1 y hy) hr.fb hr.lb (fun x y hx hy => hr.bb x hx.1 y hy) (u ++ v) x ⟨hx, hlt⟩).2 ⟨u, v, rfl, hu, (m2 v).1 hv⟩)⟩
    · obtain ⟨u, hu⟩ := hr.live nm (fun x hx hx' => hnm x (by omega) hx') x (by omega) hx'
      exact ⟨u, (hp u).2 ((cat_right nm (fun x => P.names.length ≤ x ∧ x < st.pl.names.length) (fun x => st.pl.names.length ≤ x ∧ x < r.pl.names.length) (fun x hx hx' => by omega) (· ∈ st.last) (· ∈ r.first) (· ∈ r.last)
        (fun x y => y ∈ st.pl.behind.getD x []) (fun x y => y ∈ r.pl.behind.getD x []) r.empty h.lb (fun x y hx hy => hr.bb x hx.1 y hy) u x ⟨by omega, hx'⟩).2 hu)⟩
  · obtain ⟨m0, e0⟩ := hP.names
    refine ⟨⟨m0 ++ mm, by show r.pl.names = _; rw [em, e0, List.append_assoc]⟩, fun x hx => ?_⟩
    show (updB r.pl.behind st.last r.first).getD x [] = P.behind.getD x []
    rw [hB x, if_neg (fun hl => by have := (h.lb x hl).1; omega), hold x (by omega), hP.behind x hx]
theorem good_alt {P : Pl} {st r : Pr} {Ls Lk : Row → Prop} (hP : More P st.pl) (h : Good P.names.length st Ls) (hr : Good st.pl.names.length r Lk) (hm : More st.pl r.pl) :
    Good P.names.length (plStep 97 st r) (fun w => Ls w ∨ Lk w) ∧ More P (plStep 97 st r).pl := by
  obtain ⟨mm, em⟩ := hm.names
  have hn12 : st.pl.names.length ≤ r.pl.names.length := by rw [em, List.length_append]; omega
  have e : plStep 97 st r = ⟨r.pl, putN st.first r.first, putN st.last r.last, st.empty || r.empty⟩ := by rw [plStep, if_pos rfl]
  rw [e]
  have hold : ∀ x, x < st.pl.names.length → r.pl.behind.getD x [] = st.pl.behind.getD x [] := hm.behind
  have h0 := h.from0
  refine ⟨⟨hr.len, by show P.names.length ≤ r.pl.names.length; omega, put_rises h.fr hr.fr, put_rises h.lr hr.lr, fun x hx => ?_, fun x hx => ?_, fun x hx => ?_, fun x hx y hy => ?_, fun nm hnm w => ?_, fun nm hnm x hx hx' => ?_⟩, hP.trans hm⟩
  · show P.names.length ≤ x ∧ x < r.pl.names.length
    rcases (mem_put x _ _).1 hx with hx | hx
    · have := h.fb x hx; omega
    · have := hr.fb x hx; omega
  · show P.names.length ≤ x ∧ x < r.pl.names.length
    rcases (mem_put x _ _).1 hx with hx | hx
    · have := h.lb x hx; omega
    · have := hr.lb x hx; omega
  · show Rises (r.pl.behind.getD x [])
    by_cases hlt : x < st.pl.names.length
    · rw [hold x hlt]; exact h.br x hx
    · exact hr.br x (by omega)
  · have hy : y ∈ r.pl.behind.getD x [] := hy
    show P.names.length ≤ y ∧ y < r.pl.names.length
    by_cases hlt : x < st.pl.names.length
    · rw [hold x hlt] at hy
      have := h.bb x hx y hy; omega
    · have := hr.bb x (by omega) y hy; omega
  · have hnm : ∀ x, P.names.length ≤ x → x < r.pl.names.length → nm x = r.pl.names[x]? := hnm
    have m1 := h.mean nm (nm_of hm hnm)
    have m2 := hr.mean nm (fun x hx hx' => hnm x (by omega) hx')
    have hor := LG_or nm (fun x => P.names.length ≤ x ∧ x < st.pl.names.length) (fun x => st.pl.names.length ≤ x ∧ x < r.pl.names.length) (fun x hx hx' => by omega) (· ∈ st.first) (· ∈ st.last) (· ∈ r.first) (· ∈ r.last)
      (fun x y => y ∈ st.pl.behind.getD x []) (fun x y => y ∈ r.pl.behind.getD x []) st.empty r.empty h.fb h.lb (fun x y hx hy => h.bb x hx.1 y hy) hr.fb hr.lb (fun x y hx hy => hr.bb x hx.1 y hy) w
    have hc := LG_congr (nm := nm) (nm' := nm) (F := (· ∈ putN st.first r.first)) (F' := fun x => x ∈ st.first ∨ x ∈ r.first) (La := (· ∈ putN st.last r.last)) (La' := fun x => x ∈ st.last ∨ x ∈ r.last) (R := fun x y => y ∈ r.pl.behind.getD x [])
      (R' := fun x y => ((P.names.length ≤ x ∧ x < st.pl.names.length) ∧ y ∈ st.pl.behind.getD x []) ∨ ((st.pl.names.length ≤ x ∧ x < r.pl.names.length) ∧ y ∈ r.pl.behind.getD x [])) (eps := st.empty || r.empty) (fun x => P.names.length ≤ x ∧ x < r.pl.names.length)
      (fun x => mem_put x _ _) (fun x hx => by
        rcases (mem_put x _ _).1 hx with hx | hx
        · have := h.fb x hx; omega
        · have := hr.fb x hx; omega) (fun _ _ => rfl) (fun x _ => mem_put x _ _)
      (fun x y hx => by
        by_cases hlt : x < st.pl.names.length
        · rw [hold x hlt]
          exact ⟨fun q => .inl ⟨⟨hx.1, hlt⟩, q⟩, fun q => q.elim (·.2) fun q => by omega⟩
        · exact ⟨fun q => .inr ⟨⟨by omega, hx.2⟩, q⟩, fun q => q.elim (fun q => by omega) (·.2)⟩)
      (fun x y hx hy => by
        by_cases hlt : x < st.pl.names.length
        · rw [hold x hlt] at hy
          have := h.bb x hx.1 y hy; omega
        · have := hr.bb x (by omega) y hy; omega) w
    show (Ls w ∨ Lk w) ↔ LG nm _ _ _ (st.empty || r.empty) w
    refine Iff.trans ?_ hc.symm
    refine Iff.trans ?_ hor.symm
    exact or_congr (m1 w) (m2 w)
  · have hnm : ∀ x, P.names.length ≤ x → x < r.pl.names.length → nm x = r.pl.names[x]? := hnm
    have hx' : x < r.pl.names.length := hx'
    by_cases hlt : x < st.pl.names.length
    · obtain ⟨u, hu⟩ := h.live nm (nm_of hm hnm) x hx hlt
      refine ⟨u, (pathF_congr (nm := nm) (nm' := nm) (fun x => P.names.length ≤ x ∧ x < st.pl.names.length) (fun _ _ => rfl) (fun x hx => ?_) (fun x y hx => ?_) (fun x y hx hy => h.bb x hx.1 y hy) u x ⟨hx, hlt⟩).1 hu⟩
      · show x ∈ st.last ↔ x ∈ putN st.last r.last
        rw [mem_put]
        exact ⟨.inl, fun q => q.elim id fun q => by have := (hr.lb x q).1; omega⟩
      · show y ∈ st.pl.behind.getD x [] ↔ y ∈ r.pl.behind.getD x []
        rw [hold x hx.2]
    · obtain ⟨u, hu⟩ := hr.live nm (fun x hx hx' => hnm x (by omega) hx') x (by omega) hx'
      refine ⟨u, (pathF_congr (nm := nm) (nm' := nm) (fun x => st.pl.names.length ≤ x ∧ x < r.pl.names.length) (fun _ _ => rfl) (fun x hx => ?_) (fun x y hx => Iff.rfl) (fun x y hx hy => hr.bb x hx.1 y hy) u x ⟨by omega, hx'⟩).1 hu⟩
      show x ∈ r.last ↔ x ∈ putN st.last r.last
      rw [mem_put]
      exact ⟨.inr, fun q => q.elim (fun q => by have := (h.lb x q).2; omega) id⟩
theorem good_mono {n0 : Nat} {r : Pr} {L L' : Row → Prop} (h : Good n0 r L) (he : ∀ w, L' w ↔ L w) : Good n0 r L' := { h with mean := fun nm hnm w => (he w).trans (h.mean nm hnm w) }
theorem good_start (P : Pl) (hl : P.behind.length = P.names.length) (b : Bool) : Good P.names.length ⟨P, [], [], b⟩ (fun w => w = [] ∧ b = true) ∧ More P P := by
  refine ⟨⟨hl, Nat.le_refl _, by simp, by simp, fun x h => (by cases h), fun x h => (by cases h), fun x hx => ?_, fun x hx y hy => ?_, fun nm hnm w => ?_, fun nm hnm x hx hx' => absurd hx' (by show ¬ x < P.names.length; omega)⟩, ⟨[], by simp⟩, fun x _ => rfl⟩
  · show Rises (P.behind.getD x [])
    rw [show P.behind.getD x [] = [] by simp [List.getD, List.getElem?_eq_none (by omega : P.behind.length ≤ x)]]
    exact List.Pairwise.nil
  · have hy : y ∈ P.behind.getD x [] := hy
    rw [show P.behind.getD x [] = [] by simp [List.getD, List.getElem?_eq_none (by omega : P.behind.length ≤ x)]] at hy
    cases hy
  · cases w with
    | nil => simp [LG]
    | cons a w => simp [LG]
/-- The end of one that is written behind another. -/
theorem good_many {P : Pl} {st : Pr} {Lk : Row → Prop} (op : Int) (hop : op = 42 ∨ op = 43) (hP : More P st.pl) (h : Good P.names.length st Lk) : Good P.names.length (plEnd op st) (fun w => (op = 42 ∧ w = []) ∨ Many Lk w) ∧ More P (plEnd op st).pl := by
  have e : plEnd op st = ⟨⟨st.pl.names, updB st.pl.behind st.last st.first⟩, st.first, st.last, st.empty || (decide (op = 42) || decide (op = 63))⟩ := by rw [plEnd, if_pos hop]
  have hlast : ∀ x ∈ st.last, x < st.pl.behind.length := fun x hx => by rw [h.len]; exact (h.lb x hx).2
  have hB : ∀ y, (updB st.pl.behind st.last st.first).getD y [] = if y ∈ st.last then putN (st.pl.behind.getD y []) st.first else st.pl.behind.getD y [] := updB_get _ _ _ hlast (nodup_rises h.lr)
  have hmem : ∀ x y, y ∈ (updB st.pl.behind st.last st.first).getD x [] ↔ y ∈ st.pl.behind.getD x [] ∨ (x ∈ st.last ∧ y ∈ st.first) := fun x y => by
    rw [hB x]
    split
    · rename_i hx; rw [mem_put]; simp [hx]
    · rename_i hx; simp [hx]
  rw [e]
  refine ⟨⟨by show (updB _ _ _).length = _; rw [updB_len]; exact h.len, h.from0, h.fr, h.lr, h.fb, h.lb, fun x hx => ?_, fun x hx y hy => ?_, fun nm hnm w => ?_, fun nm hnm x hx hx' => ?_⟩, hP.names, fun x hx => ?_⟩
  · show Rises ((updB _ _ _).getD x [])
    rw [hB x]
    split
    · exact put_rises (h.br x hx) h.fr
    · exact h.br x hx
  · show P.names.length ≤ y ∧ y < st.pl.names.length
    rcases (hmem x y).1 hy with hy | ⟨_, hy⟩
    · exact h.bb x hx y hy
    · exact h.fb y hy
  · have m := h.mean nm hnm
    have hR : (fun x y => y ∈ (updB st.pl.behind st.last st.first).getD x []) = fun x y => y ∈ st.pl.behind.getD x [] ∨ (x ∈ st.last ∧ y ∈ st.first) := by
      funext x y
      exact propext (hmem x y)
    show _ ↔ LG nm (· ∈ st.first) (· ∈ st.last) (fun x y => y ∈ (updB st.pl.behind st.last st.first).getD x []) (st.empty || (decide (op = 42) || decide (op = 63))) w
    rw [hR]
    have hL : Lk = LG nm (· ∈ st.first) (· ∈ st.last) (fun x y => y ∈ st.pl.behind.getD x []) st.empty := by
      funext w
      exact propext (m w)
    cases w with
    | nil =>
      rw [many_nil, hL]
      simp only [LG, Bool.or_eq_true, decide_eq_true_eq, and_true]
      rcases hop with hop | hop <;> simp [hop]
    | cons a w =>
      simp only [reduceCtorEq, and_false, false_or]
      rw [hL, ← LG_many nm (· ∈ st.first) (· ∈ st.last) (fun x y => y ∈ st.pl.behind.getD x []) st.empty a w]
      exact Iff.rfl
  · obtain ⟨u, hu⟩ := h.live nm hnm x hx hx'
    have hR : (fun x y => y ∈ (updB st.pl.behind st.last st.first).getD x []) = fun x y => y ∈ st.pl.behind.getD x [] ∨ (x ∈ st.last ∧ y ∈ st.first) := by
      funext x y
      exact propext (hmem x y)
    refine ⟨u, ?_⟩
    show PathF nm (· ∈ st.last) (fun x y => y ∈ (updB st.pl.behind st.last st.first).getD x []) x u
    rw [hR]
    exact (path_many nm (· ∈ st.first) (· ∈ st.last) (fun x y => y ∈ st.pl.behind.getD x []) u.length u x (Nat.le_refl _)).2 ⟨u, [], by simp, hu, .inl rfl⟩
  · show (updB st.pl.behind st.last st.first).getD x [] = P.behind.getD x []
    rw [hB x, if_neg (fun hl => by have := (h.lb x hl).1; omega), hP.behind x hx]
theorem good_opt {P : Pl} {st : Pr} {Lk : Row → Prop} (hP : More P st.pl) (h : Good P.names.length st Lk) : Good P.names.length (plEnd 63 st) (fun w => w = [] ∨ Lk w) ∧ More P (plEnd 63 st).pl := by
  have e : plEnd 63 st = ⟨⟨st.pl.names, st.pl.behind⟩, st.first, st.last, st.empty || true⟩ := by rw [plEnd, if_neg (by decide)]; rfl
  rw [e]
  refine ⟨⟨h.len, h.from0, h.fr, h.lr, h.fb, h.lb, h.br, h.bb, fun nm hnm w => ?_, h.live⟩, ⟨hP.names, hP.behind⟩⟩
  have m := h.mean nm hnm w
  cases w with
  | nil => simp [LG]
  | cons a w =>
    simp only [reduceCtorEq, false_or]
    exact m
theorem good_plain {P : Pl} {st : Pr} {Lk : Row → Prop} (op : Int) (h1 : ¬ (op = 42 ∨ op = 43)) (h2 : ¬ op = 63) (hP : More P st.pl) (h : Good P.names.length st Lk) : Good P.names.length (plEnd op st) Lk ∧ More P (plEnd op st).pl := by
  have e : plEnd op st = st := by
    have h42 : ¬ op = 42 := fun e => h1 (.inl e)
    rw [plEnd, if_neg h1]
    simp [h42, h2]
  rw [e]
  exact ⟨h, hP⟩
theorem pl_good (e : E) (hok : e.ok = true) (P : Pl) (hl : P.behind.length = P.names.length) : Good P.names.length (e.pl P) e.L ∧ More P (e.pl P).pl := by
  have hk : ∀ k ∈ e.kids, ∀ Q : Pl, Q.behind.length = Q.names.length → Good Q.names.length (k.pl Q) k.L ∧ More Q (k.pl Q).pl := fun k hk => pl_good k (ok_kid hok hk)
  -- rows of kids
  have hS : ∀ op : Int, ¬ op = 97 → ∀ (l : List E), (∀ k ∈ l, k.ok = true) → (∀ k ∈ l, ∀ Q : Pl, Q.behind.length = Q.names.length → Good Q.names.length (k.pl Q) k.L ∧ More Q (k.pl Q).pl) → ∀ (pre : Rest) (st : Pr), Good P.names.length st (restL pre) → More P st.pl →
      Good P.names.length (E.pl.go op l st) (restL (pre ++ l)) ∧ More P (E.pl.go op l st).pl := by
    intro op hop l
    induction l with
    | nil => intro _ _ pre st h1 h2; rw [List.append_nil]; exact ⟨h1, h2⟩
    | cons k l ih =>
      intro hkok h pre st h1 h2
      obtain ⟨a, b⟩ := h k (by simp) st.pl h1.len
      obtain ⟨c, d⟩ := good_step hop (L_some k (hkok k (by simp))) h2 h1 a b
      rw [E.pl.go]
      have := ih (fun x hx => hkok x (by simp [hx])) (fun x hx => h x (by simp [hx])) (pre ++ [k]) _ (good_mono c fun w => by
        rw [restL_append]
        constructor
        · rintro ⟨u, v, e, x, y⟩; exact ⟨u, v, e, x, (restL_one k v).1 y⟩
        · rintro ⟨u, v, e, x, y⟩; exact ⟨u, v, e, x, (restL_one k v).2 y⟩) d
      rwa [List.append_assoc] at this
  have hA : ∀ (l : List E), (∀ k ∈ l, ∀ Q : Pl, Q.behind.length = Q.names.length → Good Q.names.length (k.pl Q) k.L ∧ More Q (k.pl Q).pl) → ∀ (L0 : Row → Prop) (st : Pr), Good P.names.length st L0 → More P st.pl →
      Good P.names.length (E.pl.go 97 l st) (fun w => L0 w ∨ E.L.altL l w) ∧ More P (E.pl.go 97 l st).pl := by
    intro l
    induction l with
    | nil => intro _ L0 st h1 h2; exact ⟨good_mono h1 fun w => ⟨fun q => q.elim id fun q => q.elim, .inl⟩, h2⟩
    | cons k l ih =>
      intro h L0 st h1 h2
      obtain ⟨a, b⟩ := h k (by simp) st.pl h1.len
      obtain ⟨c, d⟩ := good_alt h2 h1 a b
      rw [E.pl.go]
      obtain ⟨x, y⟩ := ih (fun x hx => h x (by simp [hx])) _ _ c d
      exact ⟨good_mono x fun w => or_assoc.symm, y⟩
  have start := fun b => good_start P hl b
  rw [pl_eq]
  rcases ok_cases hok with h | h | h | h | h | h
  · rw [if_pos h]
    refine ⟨⟨by simp [hl], by simp, by simp, by simp, fun x hx => ?_, fun x hx => ?_, fun x hx => ?_, fun x hx y hy => ?_, fun nm hnm w => ?_, fun nm hnm x hx hx' => ⟨[], ?_⟩⟩, ⟨[e.name], rfl⟩, fun x hx => ?_⟩
    · simp at hx; subst hx; simp
    · simp at hx; subst hx; simp
    · have e1 : (P.behind ++ [[]]).getD x [] = [] := by
        by_cases hx2 : x = P.behind.length
        · subst hx2; simp [List.getD]
        · have : (P.behind ++ [[]])[x]? = none := List.getElem?_eq_none (by simp; omega)
          simp [List.getD, this]
      show Rises ((P.behind ++ [[]]).getD x [])
      rw [e1]; exact List.Pairwise.nil
    · have e1 : (P.behind ++ [[]]).getD x [] = [] := by
        by_cases hx2 : x = P.behind.length
        · subst hx2; simp [List.getD]
        · have : (P.behind ++ [[]])[x]? = none := List.getElem?_eq_none (by simp; omega)
          simp [List.getD, this]
      have hy : y ∈ (P.behind ++ [[]]).getD x [] := hy
      rw [e1] at hy
      cases hy
    · have hnm0 := hnm P.names.length (Nat.le_refl _) (by simp)
      simp at hnm0
      have e1 : (P.behind ++ [[]]).getD P.names.length [] = [] := by rw [← hl]; simp [List.getD]
      rw [L_one h]
      cases w with
      | nil => simp [LG]
      | cons a w =>
        simp only [LG, List.mem_singleton]
        constructor
        · rintro ⟨⟩
          exact ⟨P.names.length, rfl, hnm0, by simp [PathF]⟩
        · rintro ⟨y, rfl, h2, h3⟩
          rw [hnm0] at h2
          cases h2
          cases w with
          | nil => rfl
          | cons b w =>
            obtain ⟨z, hz, _⟩ := h3
            have hz : z ∈ (P.behind ++ [[]]).getD P.names.length [] := hz
            rw [e1] at hz
            cases hz
    · have hx' : x < (P.names ++ [e.name]).length := hx'
      simp at hx'
      show x ∈ [P.names.length]
      simp
      omega
    · show (P.behind ++ [[]]).getD x [] = _
      simp only [List.getD]
      rw [List.getElem?_append_left (by omega)]
  · rw [if_neg (by omega), h]
    obtain ⟨a, b⟩ := hA e.kids hk _ _ (start (!decide ((97 : Int) = 97))).1 (start true).2
    obtain ⟨c, d⟩ := good_plain 97 (by decide) (by decide) b a
    exact ⟨good_mono c fun w => by rw [L_alt h]; simp, d⟩
  · rw [if_neg (by omega), h]
    obtain ⟨a, b⟩ := hS 115 (by decide) e.kids (fun k hkm => ok_kid hok hkm) hk [] _ (good_mono (start (!decide ((115 : Int) = 97))).1 fun w => by simp [restL_nil]) (start true).2
    obtain ⟨c, d⟩ := good_plain 115 (by decide) (by decide) b a
    exact ⟨good_mono c fun w => by rw [L_seq h]; exact Iff.rfl, d⟩
  · rw [if_neg (by omega), h]
    obtain ⟨k, hkk⟩ := ok_one hok (by omega)
    obtain ⟨a, b⟩ := hS 63 (by decide) e.kids (fun k hkm => ok_kid hok hkm) hk [] _ (good_mono (start (!decide ((63 : Int) = 97))).1 fun w => by simp [restL_nil]) (start true).2
    obtain ⟨c, d⟩ := good_opt b a
    refine ⟨good_mono c fun w => ?_, d⟩
    rw [L_opt h, hkk]
    exact or_congr Iff.rfl (restL_one k w).symm
  · rw [if_neg (by omega), h]
    obtain ⟨k, hkk⟩ := ok_one hok (by omega)
    obtain ⟨a, b⟩ := hS 42 (by decide) e.kids (fun k hkm => ok_kid hok hkm) hk [] _ (good_mono (start (!decide ((42 : Int) = 97))).1 fun w => by simp [restL_nil]) (start true).2
    obtain ⟨c, d⟩ := good_many 42 (.inl rfl) b a
    refine ⟨good_mono c fun w => ?_, d⟩
    rw [L_rep (.inl h), hkk, h]
    have : restL ([] ++ [k]) = k.L := by funext w; exact propext (restL_one k w)
    rw [this]
    exact Iff.rfl
  · rw [if_neg (by omega), h]
    obtain ⟨k, hkk⟩ := ok_one hok (by omega)
    obtain ⟨a, b⟩ := hS 43 (by decide) e.kids (fun k hkm => ok_kid hok hkm) hk [] _ (good_mono (start (!decide ((43 : Int) = 97))).1 fun w => by simp [restL_nil]) (start true).2
    obtain ⟨c, d⟩ := good_many 43 (.inr rfl) b a
    refine ⟨good_mono c fun w => ?_, d⟩
    rw [L_rep (.inr h), hkk, h]
    have : restL ([] ++ [k]) = k.L := by funext w; exact propext (restL_one k w)
    rw [this]
    exact Iff.rfl
termination_by SizeOf.sizeOf e
decreasing_by exact E.kids_lt hk
/-- How many places: as many as names' places; each is one of its names. -/
theorem pl_len (e : E) (P : Pl) : (e.pl P).pl.names.length = P.names.length + e.leaves ∧ ∀ x ∈ (e.pl P).pl.names, x ∈ P.names ∨ e.occ x := by
  have hk : ∀ k ∈ e.kids, ∀ Q : Pl, (k.pl Q).pl.names.length = Q.names.length + k.leaves ∧ ∀ x ∈ (k.pl Q).pl.names, x ∈ Q.names ∨ k.occ x := fun k hk Q => pl_len k Q
  have hnames : ∀ (op : Int) (st r : Pr), (plStep op st r).pl.names = r.pl.names := fun op st r => by unfold plStep; split <;> rfl
  have hg : ∀ (op : Int) (l : List E), (∀ k ∈ l, ∀ Q : Pl, (k.pl Q).pl.names.length = Q.names.length + k.leaves ∧ ∀ x ∈ (k.pl Q).pl.names, x ∈ Q.names ∨ k.occ x) → ∀ st : Pr, (E.pl.go op l st).pl.names.length = st.pl.names.length + E.leaves.go l ∧ ∀ x ∈ (E.pl.go op l st).pl.names, x ∈ st.pl.names ∨ ∃ k ∈ l, k.occ x := by
    intro op l
    induction l with
    | nil => intro _ st; exact ⟨rfl, fun x hx => .inl hx⟩
    | cons k l ih =>
      intro h st
      obtain ⟨a, b⟩ := h k (by simp) st.pl
      obtain ⟨c, d⟩ := ih (fun x hx => h x (by simp [hx])) (plStep op st (k.pl st.pl))
      rw [hnames] at c d
      rw [E.pl.go, E.leaves.go]
      refine ⟨by omega, fun x hx => ?_⟩
      rcases d x hx with hx | ⟨y, hy, ho⟩
      · rcases b x hx with hx | hx
        · exact .inl hx
        · exact .inr ⟨k, by simp, hx⟩
      · exact .inr ⟨y, by simp [hy], ho⟩
  rw [pl_eq, leaves_eq]
  have hocc := occ_eq e
  by_cases h : e.op = 110
  · rw [if_pos h, if_pos h]
    refine ⟨by simp, fun x hx => ?_⟩
    rcases List.mem_append.1 hx with hx | hx
    · exact .inl hx
    · simp at hx
      exact .inr (by rw [hocc, if_pos h]; exact hx)
  · rw [if_neg h, if_neg h]
    obtain ⟨a, b⟩ := hg e.op e.kids hk ⟨P, [], [], !decide (e.op = 97)⟩
    refine ⟨a, fun x hx => ?_⟩
    rcases b x hx with hx | hx
    · exact .inl hx
    · exact .inr (by rw [hocc, if_neg h]; exact hx)
termination_by SizeOf.sizeOf e
decreasing_by exact E.kids_lt hk
end Go.Proofs.D
