/-
  TABLES: what they mean; the least one of what is meant is one alone.
-/
import Derived.Test.YtciibpfhjfegnaaGreatDoorD19
import Derived.Test.YtciibpfhjfegnaaGreatDoorL0
set_option linter.unusedVariables false
set_option linter.unusedSimpArgs false
namespace Go.Proofs.D
open Go Go.Abs
/-- A table: names, of each state the next ones, and whether a row may end there. -/
structure Au where
  names : List ByteArray
  next : List (List Int)
  final : List Bool
def Au.stp (d : Au) (s : Int) (a : ByteArray) : Int := if s < 0 then -1 else ((d.next[s.toNat]?).getD []).getD (ixK a d.names) (-1)
def Au.run (d : Au) (s : Int) (w : Row) : Int := w.foldl d.stp s
def Au.acc (d : Au) (s : Int) : Bool := decide (0 ≤ s) && d.final.getD s.toNat false
theorem run_nil (d : Au) (s : Int) : d.run s [] = s := rfl
theorem run_cons (d : Au) (s : Int) (a : ByteArray) (w : Row) : d.run s (a :: w) = d.run (d.stp s a) w := rfl
theorem run_append (d : Au) (s : Int) (u v : Row) : d.run s (u ++ v) = d.run (d.run s u) v := by simp [Au.run]
theorem stp_neg (d : Au) {s : Int} (h : s < 0) (a : ByteArray) : d.stp s a = -1 := by simp [Au.stp, h]
theorem stp_not (d : Au) (s : Int) {a : ByteArray} (h : a ∉ d.names) (hr : ∀ r ∈ d.next, r.length = d.names.length) : d.stp s a = -1 := by
  unfold Au.stp
  split
  · rfl
  · rw [ixK_not h]
    cases hn : d.next[s.toNat]? with
    | none => simp
    | some r => simp [hr r (List.mem_of_getElem? hn)]
/-- A table means, from each state on, the rows that L tells. -/
structure Sem0 (d : Au) (L : Nat → Row → Prop) : Prop where
  pos : 0 < d.next.length
  len : d.final.length = d.next.length
  row : ∀ r ∈ d.next, r.length = d.names.length
  fin : ∀ i, i < d.next.length → (d.final.getD i false = true ↔ L i [])
  step : ∀ i, i < d.next.length → ∀ a ∈ d.names, (d.stp i a = -1 ∧ ∀ w, ¬ L i (a :: w)) ∨ ∃ m : Nat, d.stp i a = m ∧ m < d.next.length ∧ ∀ w, L i (a :: w) ↔ L m w
  only : ∀ i, i < d.next.length → ∀ a w, L i (a :: w) → a ∈ d.names
/-- .. and none is dead. -/
structure Sem (d : Au) (L : Nat → Row → Prop) : Prop extends Sem0 d L where
  live : ∀ i, i < d.next.length → ∃ w, L i w
/-- .. of a state, or of none. -/
def LI (L : Nat → Row → Prop) (s : Int) (w : Row) : Prop := 0 ≤ s ∧ L s.toNat w
def Au.st (d : Au) (s : Int) : Prop := s = -1 ∨ (0 ≤ s ∧ s.toNat < d.next.length)
section
variable {d : Au} {L : Nat → Row → Prop} (h : Sem0 d L)
include h
theorem sem_step {s : Int} (hs : d.st s) (a : ByteArray) : d.st (d.stp s a) ∧ ∀ w, LI L s (a :: w) ↔ LI L (d.stp s a) w := by
  rcases hs with rfl | ⟨h0, hs⟩
  · rw [stp_neg d (by decide)]
    exact ⟨.inl rfl, fun w => Iff.rfl.trans ⟨fun h => absurd h.1 (by decide), fun h => absurd h.1 (by decide)⟩⟩
  · have e : ((s.toNat : Nat) : Int) = s := Int.toNat_of_nonneg h0
    by_cases ha : a ∈ d.names
    · rcases h.step s.toNat hs a ha with ⟨h1, h2⟩ | ⟨m, h1, h2, h3⟩
      · rw [e] at h1
        rw [h1]
        exact ⟨.inl rfl, fun w => ⟨fun q => absurd q.2 (h2 w), fun q => absurd q.1 (by decide)⟩⟩
      · rw [e] at h1
        rw [h1]
        refine ⟨.inr ⟨by omega, by simpa using h2⟩, fun w => ?_⟩
        unfold LI
        rw [h3 w]
        simp [h0]
    · rw [stp_not d s ha h.row]
      exact ⟨.inl rfl, fun w => ⟨fun q => absurd (h.only _ hs a w q.2) ha, fun q => absurd q.1 (by decide)⟩⟩
theorem sem_run : ∀ (w : Row) {s : Int}, d.st s → d.st (d.run s w) ∧ ∀ v, LI L s (w ++ v) ↔ LI L (d.run s w) v
  | [], s, hs => ⟨hs, fun v => Iff.rfl⟩
  | a :: w, s, hs => by
    obtain ⟨h1, h2⟩ := sem_step h hs a
    obtain ⟨h3, h4⟩ := sem_run w h1
    exact ⟨h3, fun v => (h2 (w ++ v)).trans (h4 v)⟩
theorem sem_acc {s : Int} (hs : d.st s) : d.acc s = true ↔ LI L s [] := by
  unfold Au.acc LI
  rcases hs with rfl | ⟨h0, hs⟩
  · simp
  · have := h.fin _ hs
    simp only [Bool.and_eq_true, decide_eq_true_eq, this]
theorem st0 : d.st 0 := .inr ⟨Int.le_refl _, h.pos⟩
theorem sem_has (w : Row) : d.acc (d.run 0 w) = true ↔ L 0 w := by
  obtain ⟨h1, h2⟩ := sem_run h w (st0 h)
  rw [sem_acc h h1, ← h2 [], List.append_nil]
  exact ⟨fun q => q.2, fun q => ⟨Int.le_refl _, q⟩⟩
end
theorem sem_dead {d : Au} {L : Nat → Row → Prop} (h : Sem d L) {s : Int} (hs : d.st s) (hd : ∀ w, ¬ LI L s w) : s = -1 := by
  rcases hs with rfl | ⟨h0, hs⟩
  · rfl
  · obtain ⟨w, hw⟩ := h.live _ hs
    exact absurd ⟨h0, hw⟩ (hd w)
/-- No two states mean the same; they are numbered as they are met. -/
structure Least (d : Au) (L : Nat → Row → Prop) : Prop where
  sem : Sem d L
  apart : ∀ i j, i < d.next.length → j < d.next.length → (∀ w, L i w ↔ L j w) → i = j
  ord : tabOrd 0 0 d.next = some ((d.next.length : Int) - 1)
theorem least_eq {d : Au} {L : Nat → Row → Prop} (h : Least d L) {s t : Int} (hs : d.st s) (ht : d.st t) (he : ∀ w, LI L s w ↔ LI L t w) : s = t := by
  by_cases h0 : 0 ≤ s
  · by_cases h1 : 0 ≤ t
    · have hs' : s.toNat < d.next.length := by rcases hs with rfl | hs; exact absurd h0 (by decide); exact hs.2
      have ht' : t.toNat < d.next.length := by rcases ht with rfl | ht; exact absurd h1 (by decide); exact ht.2
      have := h.apart _ _ hs' ht' fun w => ⟨fun q => ((he w).1 ⟨h0, q⟩).2, fun q => ((he w).2 ⟨h1, q⟩).2⟩
      omega
    · have := sem_dead h.sem hs fun w q => h1 ((he w).1 q).1
      omega
  · have := sem_dead h.sem ht fun w q => h0 ((he w).2 q).1
    rcases hs with rfl | hs
    · omega
    · omega
theorem getRow {d : Au} {L : Nat → Row → Prop} (h : Sem0 d L) {i j : Nat} {r : List Int} {a : ByteArray} (hn : d.names.Nodup) (hr : d.next[i]? = some r) (ha : d.names[j]? = some a) : r[j]? = some (d.stp i a) := by
  have hl := h.row r (List.mem_of_getElem? hr)
  have hj := (List.getElem?_eq_some_iff.1 ha).1
  have hix : ixK a d.names = j := by
    have h1 := ixK_mem (List.mem_of_getElem? ha)
    obtain ⟨p1, p2⟩ := List.getElem?_eq_some_iff.1 h1
    obtain ⟨q1, q2⟩ := List.getElem?_eq_some_iff.1 ha
    rcases Nat.lt_trichotomy (ixK a d.names) j with g | g | g
    · exact absurd (p2.trans q2.symm) (List.pairwise_iff_getElem.1 hn _ _ p1 q1 g)
    · exact g
    · exact absurd (q2.trans p2.symm) (List.pairwise_iff_getElem.1 hn _ _ q1 p1 g)
  unfold Au.stp
  rw [if_neg (by omega), Int.toNat_natCast, hr, hix, Option.getD_some]
  have : j < r.length := by omega
  rw [List.getElem?_eq_getElem this]
  simp [List.getD, this]
/-- Rows of two tables that are numbered as they are met, whose numbers answer to one another, are one. -/
theorem row_one {P : Int → Int → Prop} (hP : ∀ s t t', P s t → P s t' → t = t') (hP' : ∀ s s' t, P s t → P s' t → s = s') : ∀ (r r' : List Int) (m n n' : Int), 0 ≤ m → P (-1) (-1) → (∀ s, 0 ≤ s → s ≤ m → P s s) → r.length = r'.length → (∀ (j : Nat) (s t : Int), r[j]? = some s → r'[j]? = some t → P s t) →
    rowOrd m r = some n → rowOrd m r' = some n' → r = r' ∧ n = n' ∧ m ≤ n ∧ ∀ s, 0 ≤ s → s ≤ n → P s s
  | [], [], m, n, n', h0, hd, hm, _, _, h1, h2 => by
    simp only [rowOrd, Option.some.injEq] at h1 h2
    subst h1 h2
    exact ⟨rfl, rfl, Int.le_refl _, hm⟩
  | [], _ :: _, m, n, n', h0, hd, hm, hl, _, h1, h2 => by simp at hl
  | _ :: _, [], m, n, n', h0, hd, hm, hl, _, h1, h2 => by simp at hl
  | s :: r, t :: r', m, n, n', h0, hd, hm, hl, hj, h1, h2 => by
    simp only [rowOrd] at h1 h2
    split at h1
    · rename_i g1
      split at h2
      · rename_i g2
        have hst := hj 0 s t rfl rfl
        have est : s = t := by
          by_cases hs : s ≤ m
          · by_cases hs0 : 0 ≤ s
            · exact hP s s t (hm s hs0 hs) hst
            · have : s = -1 := by omega
              subst this
              exact hP (-1) (-1) t hd hst
          · by_cases ht : t ≤ m
            · by_cases ht0 : 0 ≤ t
              · exact (hP' t s t (hm t ht0 ht) hst).symm
              · have : t = -1 := by omega
                subst this
                exact (hP' (-1) s (-1) hd hst).symm
            · omega
        subst est
        obtain ⟨a, b, c, e⟩ := row_one hP hP' r r' (max m s) n n' (by omega) hd (fun x x0 hx => by
          by_cases hxm : x ≤ m
          · exact hm x x0 hxm
          · have : x = s := by omega
            rw [this]; exact hst) (by simpa using hl) (fun j s t a b => hj (j + 1) s t (by simpa using a) (by simpa using b)) h1 h2
        exact ⟨by rw [a], b, by omega, e⟩
      · cases h2
    · cases h1
/-- ONE ALONE: two least tables over the same names, that mean the same, are one. -/
theorem least_one {d d' : Au} {L L' : Nat → Row → Prop} (h : Least d L) (h' : Least d' L') (hn : d.names.Nodup) (hnn : d.names = d'.names) (h0 : ∀ w, L 0 w ↔ L' 0 w) : d.next = d'.next ∧ d.final = d'.final := by
  let P : Int → Int → Prop := fun s t => d.st s ∧ d'.st t ∧ ∀ w, LI L s w ↔ LI L' t w
  have hP : ∀ s t t', P s t → P s t' → t = t' := fun s t t' a b => least_eq h' a.2.1 b.2.1 fun w => (a.2.2 w).symm.trans (b.2.2 w)
  have hP' : ∀ s s' t, P s t → P s' t → s = s' := fun s s' t a b => least_eq h a.1 b.1 fun w => (a.2.2 w).trans (b.2.2 w).symm
  have hd : P (-1) (-1) := ⟨.inl rfl, .inl rfl, fun w => ⟨fun q => absurd q.1 (by decide), fun q => absurd q.1 (by decide)⟩⟩
  have tab : ∀ (k i : Nat) (m n n' : Int), k = d.next.length - i → 0 ≤ m → (∀ s, 0 ≤ s → s ≤ m → P s s) → tabOrd i m (d.next.drop i) = some n → tabOrd i m (d'.next.drop i) = some n' → d.next.length = n + 1 → d'.next.length = n' + 1 →
      d.next.drop i = d'.next.drop i ∧ ∀ s, 0 ≤ s → s ≤ n → P s s := by
    intro k
    induction k with
    | zero =>
      intro i m n n' hk hm0 hm h1 h2 e1 e2
      rw [List.drop_eq_nil_of_le (by omega)] at h1
      simp only [tabOrd, Option.some.injEq] at h1
      subst h1
      cases hd' : d'.next.drop i with
      | nil => exact ⟨by rw [List.drop_eq_nil_of_le (by omega)], hm⟩
      | cons r l =>
        exfalso
        rw [hd'] at h2
        simp only [tabOrd] at h2
        split at h2
        · rename_i g
          omega
        · cases h2
    | succ k ih =>
      intro i m n n' hk hm0 hm h1 h2 e1 e2
      have hi : i < d.next.length := by omega
      rw [List.drop_eq_getElem_cons hi] at h1
      simp only [tabOrd] at h1
      split at h1
      · rename_i g
        have hPi := hm i (by omega) g
        have hi' : i < d'.next.length := by
          rcases hPi.2.1 with q | q
          · omega
          · have := q.2; simpa using this
        rw [List.drop_eq_getElem_cons hi'] at h2
        simp only [tabOrd, if_pos g] at h2
        cases hr1 : rowOrd m d.next[i] with
        | none => rw [hr1] at h1; cases h1
        | some m1 =>
          cases hr2 : rowOrd m d'.next[i] with
          | none => rw [hr2] at h2; cases h2
          | some m2 =>
            rw [hr1] at h1
            rw [hr2] at h2
            simp only [Option.bind_some] at h1 h2
            have g1 : d.next[i]? = some d.next[i] := by simp
            have g2 : d'.next[i]? = some d'.next[i] := by simp
            have l1 := h.sem.row d.next[i] (List.getElem_mem _)
            have l2 := h'.sem.row d'.next[i] (List.getElem_mem _)
            obtain ⟨a, b, c, e⟩ := row_one hP hP' d.next[i] d'.next[i] m m1 m2 hm0 hd hm (by rw [l1, l2, hnn]) (fun j s t hs ht => by
              have hj := (List.getElem?_eq_some_iff.1 hs).1
              have hj1 : j < d.names.length := by omega
              have ha : d.names[j]? = some d.names[j] := by simp
              have ha' : d'.names[j]? = some d.names[j] := by rw [← hnn]; exact ha
              have q1 := getRow h.sem.toSem0 hn g1 ha
              have q2 := getRow h'.sem.toSem0 (hnn ▸ hn) g2 ha'
              rw [hs] at q1
              rw [ht] at q2
              cases q1
              cases q2
              obtain ⟨x1, x2⟩ := sem_step h.sem.toSem0 hPi.1 d.names[j]
              obtain ⟨y1, y2⟩ := sem_step h'.sem.toSem0 hPi.2.1 d.names[j]
              exact ⟨x1, y1, fun w => (x2 w).symm.trans ((hPi.2.2 _).trans (y2 w))⟩) hr1 hr2
            subst b
            obtain ⟨x, y⟩ := ih (i + 1) m1 n n' (by omega) (by omega) e h1 h2 e1 e2
            refine ⟨?_, y⟩
            rw [List.drop_eq_getElem_cons hi, List.drop_eq_getElem_cons hi', a, x]
      · cases h1
  have p1 := h.sem.pos
  have p2 := h'.sem.pos
  obtain ⟨a, b⟩ := tab _ 0 0 _ _ rfl (Int.le_refl _) (fun s s0 s1 => by
    have : s = 0 := by omega
    subst this
    refine ⟨st0 h.sem.toSem0, st0 h'.sem.toSem0, fun w => ?_⟩
    unfold LI
    simp [h0 w]) h.ord h'.ord (by omega) (by omega)
  simp only [List.drop_zero] at a
  refine ⟨a, ?_⟩
  apply List.ext_getElem?
  intro i
  have f1 := h.sem.len
  have f2 := h'.sem.len
  by_cases hi : i < d.next.length
  · have hi' : i < d'.next.length := by rw [← a]; exact hi
    have hp := b i (by omega) (by omega)
    have e : d.final.getD i false = d'.final.getD i false := by
      rw [Bool.eq_iff_iff, h.sem.fin i hi, h'.sem.fin i hi']
      have := hp.2.2 []
      unfold LI at this
      simpa using this
    have l1 : i < d.final.length := by omega
    have l2 : i < d'.final.length := by omega
    rw [List.getElem?_eq_getElem l1, List.getElem?_eq_getElem l2]
    simpa [List.getD, l1, l2] using e
  · have : d'.next.length = d.next.length := by rw [a]
    rw [List.getElem?_eq_none (by omega), List.getElem?_eq_none (by omega)]
end Go.Proofs.D
/-
  AN EXPRESSION THAT IS WRITTEN IS READ AS IT WAS.
-/
set_option linter.unusedVariables false
set_option linter.unusedSimpArgs false
namespace Go.Proofs.D
open Go Go.Abs
abbrev B (l : List UInt8) : ByteArray := ⟨l.toArray⟩
theorem B_data (s : ByteArray) : B s.data.toList = s := by obtain ⟨a⟩ := s; simp [B]
theorem B_size (l : List UInt8) : (B l).size = l.length := List.size_toArray
theorem B_list (l : List UInt8) : (B l).data.toList = l := by simp [B]
theorem ext_list {s t : ByteArray} (h : s.data.toList = t.data.toList) : s = t := by rw [← B_data s, ← B_data t, h]
theorem app_list (s t : ByteArray) : (s ++ t).data.toList = s.data.toList ++ t.data.toList := by simp [ByteArray.data_append]
theorem extract_list (s : ByteArray) (i j : Nat) : (s.extract i j).data.toList = (s.data.toList.take j).drop i := by
  rw [ByteArray.data_extract]
  simp [Array.toList_extract, List.drop_take]
theorem hp_iff (l p : List UInt8) : hasPre (B l) (B p) = true ↔ ∃ r, l = p ++ r := by
  simp only [hasPre, Bool.and_eq_true, decide_eq_true_eq, B_size]
  constructor
  · rintro ⟨h1, h2⟩
    have h3 := congrArg (fun s : ByteArray => s.data.toList) h2
    simp only [extract_list, B_list, List.drop_zero] at h3
    exact ⟨l.drop p.length, by rw [← h3, List.length_take, Nat.min_eq_left h1]; exact (List.take_append_drop _ _).symm⟩
  · rintro ⟨r, rfl⟩
    refine ⟨by simp, ext_list ?_⟩
    rw [extract_list, B_list, B_list]
    simp
theorem hp_yes (p r : List UInt8) : hasPre (B (p ++ r)) (B p) = true := (hp_iff _ _).2 ⟨r, rfl⟩
theorem hp_one (l : List UInt8) (c : UInt8) : hasPre (B l) (B [c]) = true ↔ l.head? = some c := by
  rw [hp_iff]
  cases l with
  | nil => simp
  | cons x l => simp [eq_comm]
theorem hp_one_no {l : List UInt8} {c : UInt8} (h : l.head? ≠ some c) : hasPre (B l) (B [c]) = false := by
  cases hh : hasPre (B l) (B [c]) with
  | false => rfl
  | true => exact absurd ((hp_one l c).1 hh) h
theorem cp_yes (p r : List UInt8) : cutPre (B (p ++ r)) (B p) = B r := by
  unfold cutPre
  rw [if_pos (hp_yes p r)]
  refine ext_list ?_
  rw [extract_list, B_list, B_list, B_size, B_size, List.take_length]
  simp
theorem cp_no {s p : ByteArray} (h : hasPre s p = false) : cutPre s p = s := by simp [cutPre, h]
def isLow (c : UInt8) : Bool := decide (97 ≤ c.toNat) && decide (c.toNat ≤ 122)
theorem tl_B (l : List UInt8) : tl (B l) = B (l.dropWhile isLow) := by
  unfold tl Lib.trimLeftS
  rw [B_list]
  have : (fun b => low.data.toList.contains b) = isLow := by funext b; exact low_contains b
  rw [this]
/-- What a reader reads of a text, if what is behind is as C says; w: how many items it may take. -/
def Reads (read : St → E × St) (txt : List UInt8) (e : E) (w : Nat) (C : List UInt8 → Prop) : Prop :=
  ∀ (r : List UInt8) (m : Int), C r → 0 ≤ m → m + w ≤ 48 → ∃ m' : Int, m ≤ m' ∧ m' ≤ m + w ∧ read ⟨B (txt ++ r), false, m⟩ = (e, ⟨B r, false, m'⟩)
def tailT (sign : UInt8) (txt : E → List UInt8) (xs : List E) : List UInt8 := (xs.map fun y => sign :: txt y).flatten
theorem tailT_len (sign : UInt8) (txt : E → List UInt8) : ∀ xs : List E, xs.length ≤ (tailT sign txt xs).length
  | [] => by simp
  | y :: ys => by have := tailT_len sign txt ys; simp [tailT] at this ⊢; omega
theorem rounds_reads {read : St → E × St} {sign : UInt8} {C : List UInt8 → Prop} (hC : ∀ r, C (sign :: r)) (txt : E → List UInt8) (w : E → Nat) : ∀ (xs : List E), (∀ y ∈ xs, Reads read (txt y) y (w y) C) → ∀ (n : Nat) (acc : List E) (r : List UInt8) (m : Int),
    xs.length < n → C r → r.head? ≠ some sign → 0 ≤ m → m + (xs.map w).sum ≤ 48 → ∃ m' : Int, m ≤ m' ∧ m' ≤ m + (xs.map w).sum ∧ rounds read (B [sign]) n acc ⟨B (tailT sign txt xs ++ r), false, m⟩ = (acc ++ xs, ⟨B r, false, m'⟩)
  | [], _, n, acc, r, m, hn, hr, hh, h0, hm => by
    obtain ⟨n, rfl⟩ : ∃ k, n = k + 1 := ⟨n - 1, by simp at hn; omega⟩
    refine ⟨m, Int.le_refl _, by simp, ?_⟩
    have := hp_one_no hh
    simp [rounds, tailT, this, St.cut, cp_no this]
  | y :: ys, hr', n, acc, r, m, hn, hr, hh, h0, hm => by
    obtain ⟨n, rfl⟩ : ∃ k, n = k + 1 := ⟨n - 1, by simp at hn; omega⟩
    have e1 : tailT sign txt (y :: ys) ++ r = [sign] ++ (txt y ++ (tailT sign txt ys ++ r)) := by simp [tailT]
    have hC' : C (tailT sign txt ys ++ r) := by
      cases ys with
      | nil => simpa [tailT] using hr
      | cons z zs => simp only [tailT, List.map_cons, List.flatten_cons, List.cons_append]; exact hC _
    simp only [List.map_cons, List.sum_cons] at hm ⊢
    obtain ⟨m1, a1, a2, a3⟩ := hr' y (by simp) (tailT sign txt ys ++ r) m hC' h0 (by omega)
    obtain ⟨m2, b1, b2, b3⟩ := rounds_reads hC txt w ys (fun z hz => hr' z (by simp [hz])) n (acc ++ [y]) r m1 (by simp at hn; omega) hr hh (by omega) (by omega)
    refine ⟨m2, by omega, by omega, ?_⟩
    have hc : (⟨B (tailT sign txt (y :: ys) ++ r), false, m⟩ : St).cut (B [sign]) = ⟨B (txt y ++ (tailT sign txt ys ++ r)), false, m⟩ := by
      simp only [St.cut, e1, cp_yes]
    have hp : hasPre (⟨B (tailT sign txt (y :: ys) ++ r), false, m⟩ : St).left (B [sign]) = true := by
      show hasPre (B (tailT sign txt (y :: ys) ++ r)) (B [sign]) = true
      rw [e1]; exact hp_yes _ _
    simp only [rounds, hp, hc, a3]
    simpa using b3
theorem several_reads {read : St → E × St} {sign : UInt8} {C : List UInt8 → Prop} (hC : ∀ r, C (sign :: r)) (txt : E → List UInt8) (w : E → Nat) (op : Int) (x : E) (xs : List E) (h : ∀ y ∈ x :: xs, Reads read (txt y) y (w y) C) :
    Reads (several read op (B [sign])) (txt x ++ tailT sign txt xs) (match x :: xs with | [e] => e | l => .mk op ⟨#[]⟩ l) (((x :: xs).map w).sum) (fun r => C r ∧ r.head? ≠ some sign) := by
  intro r m ⟨hr, hh⟩ h0 hm
  simp only [List.map_cons, List.sum_cons] at hm ⊢
  have hC' : C (tailT sign txt xs ++ r) := by
    cases xs with
    | nil => simpa [tailT] using hr
    | cons z zs => simp only [tailT, List.map_cons, List.flatten_cons, List.cons_append]; exact hC _
  obtain ⟨m1, a1, a2, a3⟩ := h x (by simp) (tailT sign txt xs ++ r) m hC' h0 (by omega)
  have hlen : xs.length < (B (txt x ++ tailT sign txt xs ++ r)).size + 1 := by
    rw [B_size]
    have := tailT_len sign txt xs
    simp
    omega
  obtain ⟨m2, b1, b2, b3⟩ := rounds_reads hC txt w xs (fun z hz => h z (by simp [hz])) ((B (txt x ++ tailT sign txt xs ++ r)).size + 1) [x] r m1 hlen hr hh (by omega) (by omega)
  refine ⟨m2, by omega, by omega, ?_⟩
  rw [List.append_assoc] at b3 ⊢
  unfold several
  simp only [a3, b3]
  cases xs <;> rfl
theorem Reads.mono {read : St → E × St} {txt : List UInt8} {e : E} {w w' : Nat} {C C' : List UInt8 → Prop} (h : Reads read txt e w C) (hw : w ≤ w') (hC : ∀ r, C' r → C r) : Reads read txt e w' C' := fun r m hr h0 hm => by
  obtain ⟨m', a, b, c⟩ := h r m (hC r hr) h0 (by omega)
  exact ⟨m', a, by omega, c⟩
end Go.Proofs.D
/-
  WHAT IS READ is right, and small.
-/
/-
  AN EXPRESSION THAT IS WRITTEN IS READ AS IT WAS: by the expression.
-/
set_option linter.unusedVariables false
set_option linter.unusedSimpArgs false
namespace Go.Proofs.D
open Go Go.Abs
abbrev E.txl (b : Bool) (e : E) : List UInt8 := (e.text b).data.toList
theorem par_list (b : Bool) (s : ByteArray) : (par b s).data.toList = if b = true then 40 :: (s.data.toList ++ [41]) else s.data.toList := by
  unfold par
  split
  · rw [app_list, app_list]; rfl
  · rfl
theorem join_list (txt : E → ByteArray) (sign : UInt8) (x : E) (xs : List E) : (joinB ((x :: xs).map txt) (B [sign])).data.toList = (txt x).data.toList ++ tailT sign (fun y => (txt y).data.toList) xs := by
  unfold joinB
  simp only [List.map_cons, Lib.join_cons, List.toList_toArray, List.map_map]
  congr 1
  simp only [Lib.joinTail, tailT, List.map_map]
  rfl
/-- What may stand behind an item. -/
def Cend (r : List UInt8) : Prop := ∀ c, r.head? = some c → isLow c = false ∧ c ≠ 42 ∧ c ≠ 43 ∧ c ≠ 63
theorem Cend_cons {c : UInt8} (h1 : isLow c = false) (h2 : c ≠ 42) (h3 : c ≠ 43) (h4 : c ≠ 63) (r : List UInt8) : Cend (c :: r) := by
  intro d hd
  simp at hd
  subst hd
  exact ⟨h1, h2, h3, h4⟩
abbrev seqR (k : Nat) : St → E × St := several (itemN tl k) 115 ⟨#[32]⟩
abbrev altR (k : Nat) : St → E × St := several (seqR k) 97 ⟨#[124]⟩
abbrev Cseq (r : List UInt8) : Prop := Cend r ∧ r.head? ≠ some 32
abbrev Calt (r : List UInt8) : Prop := Cseq r ∧ r.head? ≠ some 124
theorem kids_sum (e : E) : (e.kids.map E.cnt).sum + 1 = e.cnt := by rw [cnt_eq]; omega
/-- A sequence, or what stands for itself, as seq reads it. -/
theorem seq_reads (k : Nat) (e : E) (hok : e.ok = true) (hna : e.op ≠ 97) (hself : e.op ≠ 115 ∨ e.kids = [] → Reads (itemN tl k) (e.txl true) e e.cnt Cend) (hkids : e.op = 115 → ∀ y ∈ e.kids, Reads (itemN tl k) (y.txl true) y y.cnt Cend) (w : Nat) (hw1 : e.op = 115 ∧ e.kids ≠ [] → e.cnt - 1 ≤ w) (hw2 : ¬ (e.op = 115 ∧ e.kids ≠ []) → e.cnt ≤ w) : Reads (seqR k) (e.txl false) e w Cseq := by
  by_cases h : e.op = 115 ∧ e.kids ≠ []
  · have hw := hw1 h
    obtain ⟨h1, h2⟩ := h
    rcases E.ok_ops hok with ⟨h, _⟩ | ⟨_, hn, hl⟩ | ⟨h, _⟩ | ⟨h, _⟩
    · omega
    · match hkk : e.kids, h2, hl with
      | [_], _, hl => simp at hl
      | x :: y :: l, _, _ =>
        have hs := several_reads (sign := 32) (C := Cend) (Cend_cons (by decide) (by decide) (by decide) (by decide)) (E.txl true) E.cnt 115 x (y :: l) (fun z hz => hkids h1 z (by rw [hkk]; exact hz))
        have htxt : e.txl false = x.txl true ++ tailT 32 (E.txl true) (y :: l) := by
          unfold E.txl
          rw [text_eq, if_neg (by omega), if_pos h1, if_neg (by rw [hkk]; simp), par_list, if_neg (by simp), hkk]
          have : (!decide (e.op = 97)) = true := by simp [h1]
          rw [this]
          exact join_list (fun z => z.text true) 32 x (y :: l)
        have he : e = .mk 115 ⟨#[]⟩ (x :: y :: l) := by
          obtain ⟨o, n, ks⟩ := e
          simp only [E.op, E.name, E.kids] at h1 hn hkk
          rw [h1, hn, hkk]
        rw [htxt]
        have hc := kids_sum e
        rw [hkk] at hc
        conv => arg 3; rw [he]
        exact hs.mono (by omega) (fun r hr => hr)
    · omega
    · omega
  · have hw := hw2 h
    have h' : e.op ≠ 115 ∨ e.kids = [] := by
      by_cases h1 : e.op = 115
      · right
        exact Classical.byContradiction fun h2 => h ⟨h1, h2⟩
      · exact .inl h1
    have hs := several_reads (sign := 32) (C := Cend) (Cend_cons (by decide) (by decide) (by decide) (by decide)) (E.txl true) E.cnt 115 e [] (fun z hz => by simp at hz; subst hz; exact hself h')
    have htxt : e.txl false = e.txl true ++ tailT 32 (E.txl true) [] := by
      simp only [tailT, List.map_nil, List.flatten_nil, List.append_nil]
      unfold E.txl
      rw [text_eq e false, text_eq e true]
      by_cases h1 : e.op = 110
      · simp [h1]
      · by_cases h2 : e.op = 115
        · have : e.kids = [] := by rcases h' with h | h; exact absurd h2 h; exact h
          simp [h2, this]
        · simp [h1, h2, hna]
    rw [htxt]
    exact hs.mono (by simpa using hw) (fun r hr => hr)
/-- Whatever it is, as alt reads it. -/
theorem alt_reads (k : Nat) (e : E) (hok : e.ok = true) (w : Nat) (hself : e.op ≠ 97 → Reads (seqR k) (e.txl false) e w Cseq) (hkids : e.op = 97 → ∀ y ∈ e.kids, Reads (seqR k) (y.txl false) y y.cnt Cseq) (hw1 : e.op = 97 → e.cnt - 1 ≤ w) : Reads (altR k) (e.txl false) e w Calt := by
  have hC : ∀ r, Cseq (124 :: r) := fun r => ⟨Cend_cons (by decide) (by decide) (by decide) (by decide) r, by simp⟩
  by_cases h1 : e.op = 97
  · have hw := hw1 h1
    rcases E.ok_ops hok with ⟨h, _⟩ | ⟨h, _⟩ | ⟨_, hn, hl⟩ | ⟨h, _⟩
    · omega
    · omega
    · match hkk : e.kids, hl with
      | x :: y :: l, _ =>
        have hs := several_reads (sign := 124) (C := Cseq) hC (E.txl false) E.cnt 97 x (y :: l) (fun z hz => hkids h1 z (by rw [hkk]; exact hz))
        have htxt : e.txl false = x.txl false ++ tailT 124 (E.txl false) (y :: l) := by
          unfold E.txl
          rw [text_eq, if_neg (by omega), if_neg (by omega), if_pos h1, par_list, if_neg (by simp), hkk]
          have : (!decide (e.op = 97)) = false := by simp [h1]
          rw [this]
          exact join_list (fun z => z.text false) 124 x (y :: l)
        have he : e = .mk 97 ⟨#[]⟩ (x :: y :: l) := by
          obtain ⟨o, n, ks⟩ := e
          simp only [E.op, E.name, E.kids] at h1 hn hkk
          rw [h1, hn, hkk]
        rw [htxt]
        have hc := kids_sum e
        rw [hkk] at hc
        conv => arg 3; rw [he]
        exact hs.mono (by omega) (fun r hr => hr)
    · omega
  · have hs := several_reads (sign := 124) (C := Cseq) hC (E.txl false) (fun _ => w) 97 e [] (fun z hz => by simp at hz; subst hz; exact hself h1)
    have htxt : e.txl false = e.txl false ++ tailT 124 (E.txl false) [] := by simp [tailT]
    rw [htxt]
    exact hs.mono (by simp) (fun r hr => hr)
end Go.Proofs.D
/-
  THE LEAST ROW THAT TELLS TWO TABLES APART: pairs of states, in the order in which they are met.
-/
set_option linter.unusedVariables false
set_option linter.unusedSimpArgs false
namespace Go.Proofs.D
open Go Go.Abs
/-! ### rows: the shorter one ahead, of one length by their names' bytes -/
def blt (a b : ByteArray) : Prop := a.data.toList < b.data.toList
theorem bext {a b : ByteArray} (h : a.data.toList = b.data.toList) : a = b := by
  cases a; cases b; simp at h; simp [h]
theorem blt_irrefl (a : ByteArray) : ¬ blt a a := List.lt_irrefl _
theorem blt_trans {a b c : ByteArray} (h : blt a b) (h' : blt b c) : blt a c := List.lt_trans h h'
theorem blt_tri (a b : ByteArray) : blt a b ∨ a = b ∨ blt b a := by
  by_cases h : blt a b
  · exact .inl h
  · by_cases h' : blt b a
    · exact .inr (.inr h')
    · exact .inr (.inl (bext (List.le_antisymm (List.not_lt.1 h') (List.not_lt.1 h))))
def lexlt : Row → Row → Prop
  | a :: u, b :: v => blt a b ∨ (a = b ∧ lexlt u v)
  | _, _ => False
theorem lexlt_irrefl : ∀ u : Row, ¬ lexlt u u
  | [] => fun h => h
  | a :: u => fun h => by
    rcases h with h | ⟨_, h⟩
    · exact blt_irrefl a h
    · exact lexlt_irrefl u h
theorem lexlt_trans : ∀ {u v w : Row}, lexlt u v → lexlt v w → lexlt u w
  | [], _, _, h, _ => h.elim
  | _ :: _, [], _, h, _ => h.elim
  | _ :: _, _ :: _, [], _, h => h.elim
  | a :: u, b :: v, c :: w, h, h' => by
    rcases h with h | ⟨rfl, h⟩
    · rcases h' with h' | ⟨rfl, h'⟩
      · exact .inl (blt_trans h h')
      · exact .inl h
    · rcases h' with h' | ⟨rfl, h'⟩
      · exact .inl h'
      · exact .inr ⟨rfl, lexlt_trans h h'⟩
theorem lexlt_tri : ∀ (u v : Row), u.length = v.length → lexlt u v ∨ u = v ∨ lexlt v u
  | [], [], _ => .inr (.inl rfl)
  | [], _ :: _, h => by simp at h
  | _ :: _, [], h => by simp at h
  | a :: u, b :: v, h => by
    rcases blt_tri a b with g | rfl | g
    · exact .inl (.inl g)
    · rcases lexlt_tri u v (by simpa using h) with g | rfl | g
      · exact .inl (.inr ⟨rfl, g⟩)
      · exact .inr (.inl rfl)
      · exact .inr (.inr (.inr ⟨rfl, g⟩))
    · exact .inr (.inr (.inl g))
theorem lexlt_app : ∀ {u v : Row} (x y : Row), u.length = v.length → lexlt u v → lexlt (u ++ x) (v ++ y)
  | [], _, _, _, _, h => h.elim
  | _ :: _, [], _, _, _, h => h.elim
  | a :: u, b :: v, x, y, hl, h => by
    rcases h with h | ⟨rfl, h⟩
    · exact .inl h
    · exact .inr ⟨rfl, lexlt_app x y (by simpa using hl) h⟩
theorem lexlt_last {x y : ByteArray} (h : blt x y) : ∀ u : Row, lexlt (u ++ [x]) (u ++ [y])
  | [] => .inl h
  | a :: u => .inr ⟨rfl, lexlt_last h u⟩
def slt (u v : Row) : Prop := u.length < v.length ∨ (u.length = v.length ∧ lexlt u v)
def sle (u v : Row) : Prop := u = v ∨ slt u v
theorem slt_irrefl (u : Row) : ¬ slt u u := by
  rintro (h | ⟨_, h⟩)
  · omega
  · exact lexlt_irrefl u h
theorem slt_trans {u v w : Row} (h : slt u v) (h' : slt v w) : slt u w := by
  rcases h with h | ⟨h, g⟩
  · rcases h' with h' | ⟨h', _⟩
    · exact .inl (by omega)
    · exact .inl (by omega)
  · rcases h' with h' | ⟨h', g'⟩
    · exact .inl (by omega)
    · exact .inr ⟨by omega, lexlt_trans g g'⟩
theorem slt_tri (u v : Row) : slt u v ∨ u = v ∨ slt v u := by
  rcases Nat.lt_trichotomy u.length v.length with h | h | h
  · exact .inl (.inl h)
  · rcases lexlt_tri u v h with g | g | g
    · exact .inl (.inr ⟨h, g⟩)
    · exact .inr (.inl g)
    · exact .inr (.inr (.inr ⟨h.symm, g⟩))
  · exact .inr (.inr (.inl h))
theorem sle_trans {u v w : Row} (h : sle u v) (h' : sle v w) : sle u w := by
  rcases h with rfl | h
  · exact h'
  · rcases h' with rfl | h'
    · exact .inr h
    · exact .inr (slt_trans h h')
theorem slt_sle {u v w : Row} (h : slt u v) (h' : sle v w) : slt u w := by
  rcases h' with rfl | h'
  · exact h
  · exact slt_trans h h'
theorem sle_slt {u v w : Row} (h : sle u v) (h' : slt v w) : slt u w := by
  rcases h with rfl | h
  · exact h'
  · exact slt_trans h h'
theorem not_slt {u v : Row} (h : ¬ slt u v) : sle v u := by
  rcases slt_tri u v with g | g | g
  · exact absurd g h
  · exact .inl g.symm
  · exact .inr g
theorem slt_snoc {u v : Row} (x y : ByteArray) (h : slt u v) : slt (u ++ [x]) (v ++ [y]) := by
  rcases h with h | ⟨h, g⟩
  · exact .inl (by simp; omega)
  · exact .inr ⟨by simp [h], lexlt_app _ _ h g⟩
theorem sle_snoc {u v : Row} (x : ByteArray) (h : sle u v) : sle (u ++ [x]) (v ++ [x]) := by
  rcases h with rfl | h
  · exact .inl rfl
  · exact .inr (slt_snoc x x h)
theorem slt_last {x y : ByteArray} (u : Row) (h : blt x y) : slt (u ++ [x]) (u ++ [y]) := .inr ⟨by simp, lexlt_last h u⟩
theorem slt_app (u : Row) (x : ByteArray) : slt u (u ++ [x]) := .inl (by simp)
theorem sle_nil (u : Row) : sle [] u := by
  cases u with
  | nil => exact .inl rfl
  | cons a u => exact .inr (.inl (by simp))

/-! ### the pairs -/
abbrev Way := (Int × Int) × Row
section
variable (a b : Au) (bad : Int → Int → Bool) (names : List ByteArray)
def pr (w : Row) : Int × Int := (a.run 0 w, b.run 0 w)
def stp2 (p : Int × Int) (x : ByteArray) : Int × Int := (a.stp p.1 x, b.stp p.2 x)
theorem pr_snoc (w : Row) (x : ByteArray) : pr a b (w ++ [x]) = stp2 a b (pr a b w) x := by
  simp [pr, stp2, run_append, run_cons, run_nil]
/-- Ways that were found, those up to the i-th gone on from; and from the i-th by the names done. -/
structure Ways (i : Nat) (done : List ByteArray) (ways : List Way) : Prop where
  first : ways[0]? = some ((0, 0), [])
  at' : ∀ q ∈ ways, q.1 = pr a b q.2 ∧ ∀ x ∈ q.2, x ∈ names
  nodup : (ways.map (·.1)).Nodup
  alive : ∀ q ∈ ways, q.1 ≠ (-1, -1)
  sorted : ∀ (m m' : Nat) (q q' : Way), m < m' → ways[m]? = some q → ways[m']? = some q' → slt q.2 q'.2
  last : ∀ q ∈ ways, q.2 = [] ∨ ∃ (k : Nat) (p : Way) (x : ByteArray), ways[k]? = some p ∧ q.2 = p.2 ++ [x] ∧ (k < i ∨ (k = i ∧ x ∈ done))
  next : ∀ (k : Nat) (p : Way) (x : ByteArray), ways[k]? = some p → x ∈ names → (k < i ∨ (k = i ∧ x ∈ done)) → stp2 a b p.1 x = (-1, -1) ∨ ∃ q ∈ ways, q.1 = stp2 a b p.1 x ∧ sle q.2 (p.2 ++ [x])
  good : ∀ (k : Nat) (p : Way), ways[k]? = some p → (k < i ∨ (k = i ∧ done ≠ [])) → bad p.1.1 p.1.2 = false
theorem ways_start : Ways a b bad names 0 [] [((0, 0), [])] := by
  refine ⟨rfl, fun q hq => ?_, by simp, fun q hq => ?_, fun m m' q q' hlt h1 h2 => ?_, fun q hq => ?_, fun k p x hk _ h => ?_, fun k p hk h => ?_⟩
  · simp at hq; subst hq; exact ⟨rfl, fun x hx => by cases hx⟩
  · simp at hq; subst hq; decide
  · have := (List.getElem?_eq_some_iff.1 h2).1
    simp at this
    omega
  · simp at hq; subst hq; exact .inl rfl
  · rcases h with h | ⟨_, h⟩
    · omega
    · cases h
  · rcases h with h | ⟨_, h⟩
    · omega
    · exact absurd rfl h
variable {a b bad names}
theorem ways_pos {i : Nat} {done : List ByteArray} {ways : List Way} (h : Ways a b bad names i done ways) : 0 < ways.length := (List.getElem?_eq_some_iff.1 h.first).1
/-- All that was found so far stands ahead of what is found now. -/
theorem ways_ahead {i : Nat} {done rest : List ByteArray} {ways : List Way} {x : ByteArray} (h : Ways a b bad names i done ways) (hn : (done ++ x :: rest).Pairwise blt) {p : Way} (hp : ways[i]? = some p) : ∀ q ∈ ways, slt q.2 (p.2 ++ [x]) := by
  intro q hq
  rcases h.last q hq with e | ⟨k, p', y, hk, e, hki | ⟨rfl, hy⟩⟩
  · rw [e]; exact sle_slt (sle_nil p.2) (slt_app _ _)
  · rw [e]; exact slt_snoc y x (h.sorted k i p' p hki hk hp)
  · rw [hk] at hp
    cases hp
    rw [e]
    exact slt_last _ ((List.pairwise_append.1 hn).2.2 y hy x (by simp))
/-- A name more: what is met already. -/
theorem ways_old {i : Nat} {done rest : List ByteArray} {ways : List Way} {x : ByteArray} (h : Ways a b bad names i done ways) (hn : (done ++ x :: rest).Pairwise blt) {p : Way} (hp : ways[i]? = some p) (hgood : bad p.1.1 p.1.2 = false)
    (hm : stp2 a b p.1 x = (-1, -1) ∨ stp2 a b p.1 x ∈ ways.map (·.1)) : Ways a b bad names i (done ++ [x]) ways := by
  refine { h with last := fun q hq => ?_, next := fun k p' y hk hy hd => ?_, good := fun k p' hk hd => ?_ }
  · rcases h.last q hq with e | ⟨k, p', y, hk, e, hki | ⟨rfl, hy⟩⟩
    · exact .inl e
    · exact .inr ⟨k, p', y, hk, e, .inl hki⟩
    · exact .inr ⟨k, p', y, hk, e, .inr ⟨rfl, by simp [hy]⟩⟩
  · rcases hd with hd | ⟨rfl, hd⟩
    · exact h.next k p' y hk hy (.inl hd)
    · rcases List.mem_append.1 hd with hd | hd
      · exact h.next k p' y hk hy (.inr ⟨rfl, hd⟩)
      · simp at hd
        subst hd
        rw [hk] at hp
        cases hp
        rcases hm with hm | hm
        · exact .inl hm
        · obtain ⟨q, hq, e⟩ := List.mem_map.1 hm
          exact .inr ⟨q, hq, e, .inr (ways_ahead h hn hk q hq)⟩
  · rcases hd with hd | ⟨rfl, _⟩
    · exact h.good k p' hk (.inl hd)
    · rw [hk] at hp; cases hp; exact hgood
/-- .. and one that was not. -/
theorem ways_new {i : Nat} {done rest : List ByteArray} {ways : List Way} {x : ByteArray} (h : Ways a b bad names i done ways) (hn : (done ++ x :: rest).Pairwise blt) (hx : x ∈ names) {p : Way} (hp : ways[i]? = some p) (hgood : bad p.1.1 p.1.2 = false)
    (hm : stp2 a b p.1 x ≠ (-1, -1)) (hm' : stp2 a b p.1 x ∉ ways.map (·.1)) : Ways a b bad names i (done ++ [x]) (ways ++ [(stp2 a b p.1 x, p.2 ++ [x])]) := by
  have hah := ways_ahead h hn hp
  have hpm := List.mem_of_getElem? hp
  have h0 := ways_pos h
  have hil := (List.getElem?_eq_some_iff.1 hp).1
  have old : ∀ (k : Nat) (q : Way), (ways ++ [(stp2 a b p.1 x, p.2 ++ [x])])[k]? = some q → (ways[k]? = some q) ∨ (k = ways.length ∧ q = (stp2 a b p.1 x, p.2 ++ [x])) := fun k q hk => by
    by_cases hlt : k < ways.length
    · rw [List.getElem?_append_left hlt] at hk; exact .inl hk
    · rw [List.getElem?_append_right (by omega)] at hk
      have := (List.getElem?_eq_some_iff.1 hk).1
      simp at this
      have hk0 : k - ways.length = 0 := by omega
      rw [hk0] at hk
      simp at hk
      exact .inr ⟨by omega, hk.symm⟩
  have keep : ∀ (k : Nat) (q : Way), ways[k]? = some q → (ways ++ [(stp2 a b p.1 x, p.2 ++ [x])])[k]? = some q := fun k q hk => by
    rw [List.getElem?_append_left (List.getElem?_eq_some_iff.1 hk).1]; exact hk
  refine ⟨keep 0 _ h.first, fun q hq => ?_, ?_, fun q hq => ?_, fun m m' q q' hlt h1 h2 => ?_, fun q hq => ?_, fun k p' y hk hy hd => ?_, fun k p' hk hd => ?_⟩
  · rcases List.mem_append.1 hq with hq | hq
    · exact h.at' q hq
    · simp at hq
      subst hq
      obtain ⟨e1, e2⟩ := h.at' p hpm
      refine ⟨?_, fun y hy => ?_⟩
      · show stp2 a b p.1 x = pr a b (p.2 ++ [x])
        rw [pr_snoc, e1]
      · rcases List.mem_append.1 hy with hy | hy
        · exact e2 y hy
        · simp at hy; rw [hy]; exact hx
  · rw [List.map_append]
    refine List.nodup_append.2 ⟨h.nodup, by simp, fun u hu v hv => ?_⟩
    simp at hv
    subst hv
    exact fun e => hm' (e ▸ hu)
  · rcases List.mem_append.1 hq with hq | hq
    · exact h.alive q hq
    · simp at hq; subst hq; exact hm
  · rcases old m' q' h2 with g2 | ⟨rfl, rfl⟩
    · rcases old m q h1 with g1 | ⟨rfl, rfl⟩
      · exact h.sorted m m' q q' hlt g1 g2
      · have := (List.getElem?_eq_some_iff.1 g2).1
        omega
    · rcases old m q h1 with g1 | ⟨g1, _⟩
      · exact hah q (List.mem_of_getElem? g1)
      · omega
  · rcases List.mem_append.1 hq with hq | hq
    · rcases h.last q hq with e | ⟨k, p', y, hk, e, hki | ⟨rfl, hy⟩⟩
      · exact .inl e
      · exact .inr ⟨k, p', y, keep k p' hk, e, .inl hki⟩
      · exact .inr ⟨k, p', y, keep k p' hk, e, .inr ⟨rfl, by simp [hy]⟩⟩
    · simp at hq
      subst hq
      exact .inr ⟨i, p, x, keep i p hp, rfl, .inr ⟨rfl, by simp⟩⟩
  · have hki : k < ways.length := by rcases hd with hd | ⟨rfl, _⟩ <;> omega
    rcases old k p' hk with g | ⟨g, _⟩
    · have up : (stp2 a b p'.1 y = (-1, -1) ∨ ∃ q ∈ ways, q.1 = stp2 a b p'.1 y ∧ sle q.2 (p'.2 ++ [y])) → (stp2 a b p'.1 y = (-1, -1) ∨ ∃ q ∈ ways ++ [(stp2 a b p.1 x, p.2 ++ [x])], q.1 = stp2 a b p'.1 y ∧ sle q.2 (p'.2 ++ [y])) := by
        rintro (e | ⟨q, hq, e⟩)
        · exact .inl e
        · exact .inr ⟨q, by simp [hq], e⟩
      rcases hd with hd | ⟨rfl, hd⟩
      · exact up (h.next k p' y g hy (.inl hd))
      · rcases List.mem_append.1 hd with hd | hd
        · exact up (h.next k p' y g hy (.inr ⟨rfl, hd⟩))
        · simp at hd
          subst hd
          rw [g] at hp
          cases hp
          exact .inr ⟨_, List.mem_append.2 (.inr (List.mem_singleton.2 rfl)), rfl, .inl rfl⟩
    · omega
  · have hki : k < ways.length := by rcases hd with hd | ⟨rfl, _⟩ <;> omega
    rcases old k p' hk with g | ⟨g, _⟩
    · rcases hd with hd | ⟨rfl, _⟩
      · exact h.good k p' g (.inl hd)
      · rw [g] at hp; cases hp; exact hgood
    · omega
/-- All names done: on to the next way. -/
theorem ways_turn {i : Nat} {done : List ByteArray} {ways : List Way} (h : Ways a b bad names i done ways) (hd : ∀ x ∈ names, x ∈ done) {p : Way} (hp : ways[i]? = some p) (hgood : bad p.1.1 p.1.2 = false) : Ways a b bad names (i + 1) [] ways := by
  refine { h with last := fun q hq => ?_, next := fun k p' y hk hy hd' => ?_, good := fun k p' hk hd' => ?_ }
  · rcases h.last q hq with e | ⟨k, p', y, hk, e, hki | ⟨rfl, hy⟩⟩
    · exact .inl e
    · exact .inr ⟨k, p', y, hk, e, .inl (by omega)⟩
    · exact .inr ⟨k, p', y, hk, e, .inl (by omega)⟩
  · rcases hd' with hk' | ⟨_, hd'⟩
    · by_cases hki : k < i
      · exact h.next k p' y hk hy (.inl hki)
      · have : k = i := by omega
        subst this
        exact h.next k p' y hk hy (.inr ⟨rfl, hd y hy⟩)
    · cases hd'
  · rcases hd' with hk' | ⟨_, hd'⟩
    · by_cases hki : k < i
      · exact h.good k p' hk (.inl hki)
      · have : k = i := by omega
        subst this
        rw [hk] at hp
        cases hp
        exact hgood
    · exact absurd rfl hd'
/-- Where a row leads: nowhere, or to where a way led that is no greater; or the row is no less than the next way. -/
theorem ways_reach {i : Nat} {ways : List Way} (h : Ways a b bad names i [] ways) (hna : ∀ r ∈ a.next, r.length = a.names.length) (hnb : ∀ r ∈ b.next, r.length = b.names.length) (hnm : ∀ x, x ∈ names ↔ x ∈ a.names ∨ x ∈ b.names) : ∀ (n : Nat) (w : Row), w.length = n → (∀ q, ways[i]? = some q → slt w q.2) →
    pr a b w = (-1, -1) ∨ ∃ q ∈ ways, q.1 = pr a b w ∧ sle q.2 w := by
  intro n
  induction n with
  | zero =>
    intro w hw _
    obtain rfl := List.eq_nil_of_length_eq_zero hw
    exact .inr ⟨_, List.mem_of_getElem? h.first, rfl, .inl rfl⟩
  | succ n ih =>
    intro w hw hlt
    obtain ⟨u, x, rfl⟩ : ∃ u x, w = u ++ [x] := ⟨w.dropLast, w.getLast (by intro e; rw [e] at hw; cases hw), (List.dropLast_concat_getLast _).symm⟩
    have hu : u.length = n := by simpa using hw
    rw [pr_snoc]
    rcases ih u hu (fun q hq => slt_trans (slt_app u x) (hlt q hq)) with e | ⟨q, hq, e, hle⟩
    · left
      rw [e]
      simp [stp2, stp_neg]
    · by_cases hx : x ∈ names
      · obtain ⟨k, hk⟩ := List.getElem?_of_mem hq
        have hki : k < i := by
          refine Classical.byContradiction fun hge => ?_
          by_cases hil : i < ways.length
          · have hqi : ways[i]? = some ways[i] := by simp
            have h1 := hlt _ hqi
            have h2 : sle ways[i].2 q.2 := by
              by_cases hik : i = k
              · subst hik
                rw [hk] at hqi
                cases hqi
                exact .inl rfl
              · exact .inr (h.sorted i k _ _ (by omega) hqi hk)
            exact slt_irrefl _ (slt_sle h1 (sle_trans h2 (sle_trans hle (.inr (slt_app u x)))))
          · have := (List.getElem?_eq_some_iff.1 hk).1
            omega
        rcases h.next k q x hk hx (.inl hki) with e' | ⟨q', hq', e', hle'⟩
        · left; rw [← e]; exact e'
        · right
          exact ⟨q', hq', by rw [e', e], sle_trans hle' (sle_snoc x hle)⟩
      · left
        have h1 : x ∉ a.names := fun q => hx ((hnm x).2 (.inl q))
        have h2 : x ∉ b.names := fun q => hx ((hnm x).2 (.inr q))
        simp [stp2, stp_not a _ h1 hna, stp_not b _ h2 hnb]
/-- FOUND: no row that is less leads to a pair that is bad. -/
theorem ways_found {i : Nat} {ways : List Way} (h : Ways a b bad names i [] ways) (hna : ∀ r ∈ a.next, r.length = a.names.length) (hnb : ∀ r ∈ b.next, r.length = b.names.length) (hnm : ∀ x, x ∈ names ↔ x ∈ a.names ∨ x ∈ b.names) (hd : bad (-1) (-1) = false) {p : Way} (hp : ways[i]? = some p) :
    ∀ w, slt w p.2 → bad (pr a b w).1 (pr a b w).2 = false := by
  intro w hw
  rcases ways_reach h hna hnb hnm w.length w rfl (fun q hq => by rw [hp] at hq; cases hq; exact hw) with e | ⟨q, hq, e, hle⟩
  · rw [e]; exact hd
  · obtain ⟨k, hk⟩ := List.getElem?_of_mem hq
    rw [← e]
    refine h.good k q hk (.inl ?_)
    refine Classical.byContradiction fun hge => ?_
    by_cases hik : i = k
    · subst hik
      rw [hk] at hp
      cases hp
      exact slt_irrefl _ (slt_sle hw hle)
    · exact slt_irrefl _ (slt_trans hw (slt_sle (h.sorted i k _ _ (by omega) hp hk) hle))
/-- ALL GONE ON FROM: no row leads to a pair that is bad. -/
theorem ways_none {i : Nat} {ways : List Way} (h : Ways a b bad names i [] ways) (hna : ∀ r ∈ a.next, r.length = a.names.length) (hnb : ∀ r ∈ b.next, r.length = b.names.length) (hnm : ∀ x, x ∈ names ↔ x ∈ a.names ∨ x ∈ b.names) (hd : bad (-1) (-1) = false) (hi : ways.length ≤ i) :
    ∀ w, bad (pr a b w).1 (pr a b w).2 = false := by
  intro w
  rcases ways_reach h hna hnb hnm w.length w rfl (fun q hq => by rw [List.getElem?_eq_none (by omega)] at hq; cases hq) with e | ⟨q, hq, e, hle⟩
  · rw [e]; exact hd
  · obtain ⟨k, hk⟩ := List.getElem?_of_mem hq
    rw [← e]
    exact h.good k q hk (.inl (by have := (List.getElem?_eq_some_iff.1 hk).1; omega))
end
/-- The least row of which D holds, if there is one. -/
def LeastRow (D : Row → Prop) (w : Row) : Prop := D w ∧ ∀ v, slt v w → ¬ D v
theorem leastRow_one {D : Row → Prop} {u v : Row} (hu : LeastRow D u) (hv : LeastRow D v) : u = v := by
  rcases slt_tri u v with h | h | h
  · exact absurd hu.1 (hv.2 u h)
  · exact h
  · exact absurd hv.1 (hu.2 v h)
open Classical in
noncomputable def theRow (D : Row → Prop) : Row := if h : ∃ w, LeastRow D w then h.choose else []
theorem theRow_eq {D : Row → Prop} {w : Row} (h : LeastRow D w) : theRow D = w := by
  have hx : ∃ w, LeastRow D w := ⟨w, h⟩
  unfold theRow
  rw [dif_pos hx]
  exact leastRow_one hx.choose_spec h
theorem theRow_none {D : Row → Prop} (h : ∀ w, ¬ D w) : theRow D = [] := by
  unfold theRow
  rw [dif_neg (fun ⟨w, hw⟩ => h w hw.1)]
end Go.Proofs.D
