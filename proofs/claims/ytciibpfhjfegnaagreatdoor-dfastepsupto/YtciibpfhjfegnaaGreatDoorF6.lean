/-
  TABLES: what they mean; the least one of what is meant is one alone.
-/
import Derived.Test.YtciibpfhjfegnaaGreatDoorD19
set_option linter.unusedVariables false
set_option linter.unusedSimpArgs false
namespace Go.Proofs.D
open Go Go.Abs
/-- A table: names, of each state the next ones, and whether a row may end there. -/
structure Au where
  names : List ByteArray
  next : List (List Int)
  final : List Bool
def Au.stp (d : Au) (s : Int) (a : ByteArray) : Int := if s < 0 then -1 else ((d.next[s.toNat]?).getD []).getD (ixK a d.names) (-1)
def Au.run (d : Au) (s : Int) (w : Row) : Int := w.foldl d.stp s
def Au.acc (d : Au) (s : Int) : Bool := decide (0 ≤ s) && d.final.getD s.toNat false
theorem run_nil (d : Au) (s : Int) : d.run s [] = s := rfl
theorem run_cons (d : Au) (s : Int) (a : ByteArray) (w : Row) : d.run s (a :: w) = d.run (d.stp s a) w := rfl
theorem run_append (d : Au) (s : Int) (u v : Row) : d.run s (u ++ v) = d.run (d.run s u) v := by simp [Au.run]
theorem stp_neg (d : Au) {s : Int} (h : s < 0) (a : ByteArray) : d.stp s a = -1 := by simp [Au.stp, h]
theorem stp_not (d : Au) (s : Int) {a : ByteArray} (h : a ∉ d.names) (hr : ∀ r ∈ d.next, r.length = d.names.length) : d.stp s a = -1 := by
  unfold Au.stp
  split
  · rfl
  · rw [ixK_not h]
    cases hn : d.next[s.toNat]? with
    | none => simp
    | some r => simp [hr r (List.mem_of_getElem? hn)]
/-- A table means, from each state on, the rows that L tells. -/
structure Sem0 (d : Au) (L : Nat → Row → Prop) : Prop where
  pos : 0 < d.next.length
  len : d.final.length = d.next.length
  row : ∀ r ∈ d.next, r.length = d.names.length
  fin : ∀ i, i < d.next.length → (d.final.getD i false = true ↔ L i [])
  step : ∀ i, i < d.next.length → ∀ a ∈ d.names, (d.stp i a = -1 ∧ ∀ w, ¬ L i (a :: w)) ∨ ∃ m : Nat, d.stp i a = m ∧ m < d.next.length ∧ ∀ w, L i (a :: w) ↔ L m w
  only : ∀ i, i < d.next.length → ∀ a w, L i (a :: w) → a ∈ d.names
/-- .. and none is dead. -/
structure Sem (d : Au) (L : Nat → Row → Prop) : Prop extends Sem0 d L where
  live : ∀ i, i < d.next.length → ∃ w, L i w
/-- .. of a state, or of none. -/
def LI (L : Nat → Row → Prop) (s : Int) (w : Row) : Prop := 0 ≤ s ∧ L s.toNat w
def Au.st (d : Au) (s : Int) : Prop := s = -1 ∨ (0 ≤ s ∧ s.toNat < d.next.length)
section
variable {d : Au} {L : Nat → Row → Prop} (h : Sem0 d L)
include h
theorem sem_step {s : Int} (hs : d.st s) (a : ByteArray) : d.st (d.stp s a) ∧ ∀ w, LI L s (a :: w) ↔ LI L (d.stp s a) w := by
  rcases hs with rfl | ⟨h0, hs⟩
  · rw [stp_neg d (by decide)]
    exact ⟨.inl rfl, fun w => Iff.rfl.trans ⟨fun h => absurd h.1 (by decide), fun h => absurd h.1 (by decide)⟩⟩
  · have e : ((s.toNat : Nat) : Int) = s := Int.toNat_of_nonneg h0
    by_cases ha : a ∈ d.names
    · rcases h.step s.toNat hs a ha with ⟨h1, h2⟩ | ⟨m, h1, h2, h3⟩
      · rw [e] at h1
        rw [h1]
        exact ⟨.inl rfl, fun w => ⟨fun q => absurd q.2 (h2 w), fun q => absurd q.1 (by decide)⟩⟩
      · rw [e] at h1
        rw [h1]
        refine ⟨.inr ⟨by omega, by simpa using h2⟩, fun w => ?_⟩
        unfold LI
        rw [h3 w]
        simp [h0]
    · rw [stp_not d s ha h.row]
      exact ⟨.inl rfl, fun w => ⟨fun q => absurd (h.only _ hs a w q.2) ha, fun q => absurd q.1 (by decide)⟩⟩
theorem sem_run : ∀ (w : Row) {s : Int}, d.st s → d.st (d.run s w) ∧ ∀ v, LI L s (w ++ v) ↔ LI L (d.run s w) v
  | [], s, hs => ⟨hs, fun v => Iff.rfl⟩
  | a :: w, s, hs => by
    obtain ⟨h1, h2⟩ := sem_step h hs a
    obtain ⟨h3, h4⟩ := sem_run w h1
    exact ⟨h3, fun v => (h2 (w ++ v)).trans (h4 v)⟩
theorem sem_acc {s : Int} (hs : d.st s) : d.acc s = true ↔ LI L s [] := by
  unfold Au.acc LI
  rcases hs with rfl | ⟨h0, hs⟩
  · simp
  · have := h.fin _ hs
    simp only [Bool.and_eq_true, decide_eq_true_eq, this]
theorem st0 : d.st 0 := .inr ⟨Int.le_refl _, h.pos⟩
theorem sem_has (w : Row) : d.acc (d.run 0 w) = true ↔ L 0 w := by
  obtain ⟨h1, h2⟩ := sem_run h w (st0 h)
  rw [sem_acc h h1, ← h2 [], List.append_nil]
  exact ⟨fun q => q.2, fun q => ⟨Int.le_refl _, q⟩⟩
end
theorem sem_dead {d : Au} {L : Nat → Row → Prop} (h : Sem d L) {s : Int} (hs : d.st s) (hd : ∀ w, ¬ LI L s w) : s = -1 := by
  rcases hs with rfl | ⟨h0, hs⟩
  · rfl
  · obtain ⟨w, hw⟩ := h.live _ hs
    exact absurd ⟨h0, hw⟩ (hd w)
/-- No two states mean the same; they are numbered as they are met. -/
structure Least (d : Au) (L : Nat → Row → Prop) : Prop where
  sem : Sem d L
  apart : ∀ i j, i < d.next.length → j < d.next.length → (∀ w, L i w ↔ L j w) → i = j
  ord : tabOrd 0 0 d.next = some ((d.next.length : Int) - 1)
theorem least_eq {d : Au} {L : Nat → Row → Prop} (h : Least d L) {s t : Int} (hs : d.st s) (ht : d.st t) (he : ∀ w, LI L s w ↔ LI L t w) : s = t := by
  by_cases h0 : 0 ≤ s
  · by_cases h1 : 0 ≤ t
    · have hs' : s.toNat < d.next.length := by rcases hs with rfl | hs; exact absurd h0 (by decide); exact hs.2
      have ht' : t.toNat < d.next.length := by rcases ht with rfl | ht; exact absurd h1 (by decide); exact ht.2
      have := h.apart _ _ hs' ht' fun w => ⟨fun q => ((he w).1 ⟨h0, q⟩).2, fun q => ((he w).2 ⟨h1, q⟩).2⟩
      omega
    · have := sem_dead h.sem hs fun w q => h1 ((he w).1 q).1
      omega
  · have := sem_dead h.sem ht fun w q => h0 ((he w).2 q).1
    rcases hs with rfl | hs
    · omega
    · omega
theorem getRow {d : Au} {L : Nat → Row → Prop} (h : Sem0 d L) {i j : Nat} {r : List Int} {a : ByteArray} (hn : d.names.Nodup) (hr : d.next[i]? = some r) (ha : d.names[j]? = some a) : r[j]? = some (d.stp i a) := by
  have hl := h.row r (List.mem_of_getElem? hr)
  have hj := (List.getElem?_eq_some_iff.1 ha).1
  have hix : ixK a d.names = j := by
    have h1 := ixK_mem (List.mem_of_getElem? ha)
    obtain ⟨p1, p2⟩ := List.getElem?_eq_some_iff.1 h1
    obtain ⟨q1, q2⟩ := List.getElem?_eq_some_iff.1 ha
    rcases Nat.lt_trichotomy (ixK a d.names) j with g | g | g
    · exact absurd (p2.trans q2.symm) (List.pairwise_iff_getElem.1 hn _ _ p1 q1 g)
    · exact g
    · exact absurd (q2.trans p2.symm) (List.pairwise_iff_getElem.1 hn _ _ q1 p1 g)
  unfold Au.stp
  rw [if_neg (by omega), Int.toNat_natCast, hr, hix, Option.getD_some]
  have : j < r.length := by omega
  rw [List.getElem?_eq_getElem this]
  simp [List.getD, this]
/-- Rows of two tables that are numbered as they are met, whose numbers answer to one another, are one. -/
theorem row_one {P : Int → Int → Prop} (hP : ∀ s t t', P s t → P s t' → t = t') (hP' : ∀ s s' t, P s t → P s' t → s = s') : ∀ (r r' : List Int) (m n n' : Int), 0 ≤ m → P (-1) (-1) → (∀ s, 0 ≤ s → s ≤ m → P s s) → r.length = r'.length → (∀ (j : Nat) (s t : Int), r[j]? = some s → r'[j]? = some t → P s t) →
    rowOrd m r = some n → rowOrd m r' = some n' → r = r' ∧ n = n' ∧ m ≤ n ∧ ∀ s, 0 ≤ s → s ≤ n → P s s
  | [], [], m, n, n', h0, hd, hm, _, _, h1, h2 => by
    simp only [rowOrd, Option.some.injEq] at h1 h2
    subst h1 h2
    exact ⟨rfl, rfl, Int.le_refl _, hm⟩
  | [], _ :: _, m, n, n', h0, hd, hm, hl, _, h1, h2 => by simp at hl
  | _ :: _, [], m, n, n', h0, hd, hm, hl, _, h1, h2 => by simp at hl
  | s :: r, t :: r', m, n, n', h0, hd, hm, hl, hj, h1, h2 => by
    simp only [rowOrd] at h1 h2
    split at h1
    · rename_i g1
      split at h2
      · rename_i g2
        have hst := hj 0 s t rfl rfl
        have est : s = t := by
          by_cases hs : s ≤ m
          · by_cases hs0 : 0 ≤ s
            · exact hP s s t (hm s hs0 hs) hst
            · have : s = -1 := by omega
              subst this
              exact hP (-1) (-1) t hd hst
          · by_cases ht : t ≤ m
            · by_cases ht0 : 0 ≤ t
              · exact (hP' t s t (hm t ht0 ht) hst).symm
              · have : t = -1 := by omega
                subst this
                exact (hP' (-1) s (-1) hd hst).symm
            · omega
        subst est
        obtain ⟨a, b, c, e⟩ := row_one hP hP' r r' (max m s) n n' (by omega) hd (fun x x0 hx => by
          by_cases hxm : x ≤ m
          · exact hm x x0 hxm
          · have : x = s := by omega
            rw [this]; exact hst) (by simpa using hl) (fun j s t a b => hj (j + 1) s t (by simpa using a) (by simpa using b)) h1 h2
        exact ⟨by rw [a], b, by omega, e⟩
      · cases h2
    · cases h1
/-- ONE ALONE: two least tables over the same names, that mean the same, are one. -/
theorem least_one {d d' : Au} {L L' : Nat → Row → Prop} (h : Least d L) (h' : Least d' L') (hn : d.names.Nodup) (hnn : d.names = d'.names) (h0 : ∀ w, L 0 w ↔ L' 0 w) : d.next = d'.next ∧ d.final = d'.final := by
  let P : Int → Int → Prop := fun s t => d.st s ∧ d'.st t ∧ ∀ w, LI L s w ↔ LI L' t w
  have hP : ∀ s t t', P s t → P s t' → t = t' := fun s t t' a b => least_eq h' a.2.1 b.2.1 fun w => (a.2.2 w).symm.trans (b.2.2 w)
  have hP' : ∀ s s' t, P s t → P s' t → s = s' := fun s s' t a b => least_eq h a.1 b.1 fun w => (a.2.2 w).trans (b.2.2 w).symm
  have hd : P (-1) (-1) := ⟨.inl rfl, .inl rfl, fun w => ⟨fun q => absurd q.1 (by decide), fun q => absurd q.1 (by decide)⟩⟩
  have tab : ∀ (k i : Nat) (m n n' : Int), k = d.next.length - i → 0 ≤ m → (∀ s, 0 ≤ s → s ≤ m → P s s) → tabOrd i m (d.next.drop i) = some n → tabOrd i m (d'.next.drop i) = some n' → d.next.length = n + 1 → d'.next.length = n' + 1 →
      d.next.drop i = d'.next.drop i ∧ ∀ s, 0 ≤ s → s ≤ n → P s s := by
    intro k
    induction k with
    | zero =>
      intro i m n n' hk hm0 hm h1 h2 e1 e2
      rw [List.drop_eq_nil_of_le (by omega)] at h1
      simp only [tabOrd, Option.some.injEq] at h1
      subst h1
      cases hd' : d'.next.drop i with
      | nil => exact ⟨by rw [List.drop_eq_nil_of_le (by omega)], hm⟩
      | cons r l =>
        exfalso
        rw [hd'] at h2
        simp only [tabOrd] at h2
        split at h2
        · rename_i g
          omega
        · cases h2
    | succ k ih =>
      intro i m n n' hk hm0 hm h1 h2 e1 e2
      have hi : i < d.next.length := by omega
      rw [List.drop_eq_getElem_cons hi] at h1
      simp only [tabOrd] at h1
      split at h1
      · rename_i g
        have hPi := hm i (by omega) g
        have hi' : i < d'.next.length := by
          rcases hPi.2.1 with q | q
          · omega
          · have := q.2; simpa using this
        rw [List.drop_eq_getElem_cons hi'] at h2
        simp only [tabOrd, if_pos g] at h2
        cases hr1 : rowOrd m d.next[i] with
        | none => rw [hr1] at h1; cases h1
        | some m1 =>
          cases hr2 : rowOrd m d'.next[i] with
          | none => rw [hr2] at h2; cases h2
          | some m2 =>
            rw [hr1] at h1
            rw [hr2] at h2
            simp only [Option.bind_some] at h1 h2
            have g1 : d.next[i]? = some d.next[i] := by simp
            have g2 : d'.next[i]? = some d'.next[i] := by simp
            have l1 := h.sem.row d.next[i] (List.getElem_mem _)
            have l2 := h'.sem.row d'.next[i] (List.getElem_mem _)
            obtain ⟨a, b, c, e⟩ := row_one hP hP' d.next[i] d'.next[i] m m1 m2 hm0 hd hm (by rw [l1, l2, hnn]) (fun j s t hs ht => by
              have hj := (List.getElem?_eq_some_iff.1 hs).1
              have hj1 : j < d.names.length := by omega
              have ha : d.names[j]? = some d.names[j] := by simp
              have ha' : d'.names[j]? = some d.names[j] := by rw [← hnn]; exact ha
              have q1 := getRow h.sem.toSem0 hn g1 ha
              have q2 := getRow h'.sem.toSem0 (hnn ▸ hn) g2 ha'
              rw [hs] at q1
              rw [ht] at q2
              cases q1
              cases q2
              obtain ⟨x1, x2⟩ := sem_step h.sem.toSem0 hPi.1 d.names[j]
              obtain ⟨y1, y2⟩ := sem_step h'.sem.toSem0 hPi.2.1 d.names[j]
              exact ⟨x1, y1, fun w => (x2 w).symm.trans ((hPi.2.2 _).trans (y2 w))⟩) hr1 hr2
            subst b
            obtain ⟨x, y⟩ := ih (i + 1) m1 n n' (by omega) (by omega) e h1 h2 e1 e2
            refine ⟨?_, y⟩
            rw [List.drop_eq_getElem_cons hi, List.drop_eq_getElem_cons hi', a, x]
      · cases h1
  have p1 := h.sem.pos
  have p2 := h'.sem.pos
  obtain ⟨a, b⟩ := tab _ 0 0 _ _ rfl (Int.le_refl _) (fun s s0 s1 => by
    have : s = 0 := by omega
    subst this
    refine ⟨st0 h.sem.toSem0, st0 h'.sem.toSem0, fun w => ?_⟩
    unfold LI
    simp [h0 w]) h.ord h'.ord (by omega) (by omega)
  simp only [List.drop_zero] at a
  refine ⟨a, ?_⟩
  apply List.ext_getElem?
  intro i
  have f1 := h.sem.len
  have f2 := h'.sem.len
  by_cases hi : i < d.next.length
  · have hi' : i < d'.next.length := by rw [← a]; exact hi
    have hp := b i (by omega) (by omega)
    have e : d.final.getD i false = d'.final.getD i false := by
      rw [Bool.eq_iff_iff, h.sem.fin i hi, h'.sem.fin i hi']
      have := hp.2.2 []
      unfold LI at this
      simpa using this
    have l1 : i < d.final.length := by omega
    have l2 : i < d'.final.length := by omega
    rw [List.getElem?_eq_getElem l1, List.getElem?_eq_getElem l2]
    simpa [List.getD, l1, l2] using e
  · have : d'.next.length = d.next.length := by rw [a]
    rw [List.getElem?_eq_none (by omega), List.getElem?_eq_none (by omega)]
end Go.Proofs.D
/-
  AN EXPRESSION THAT IS WRITTEN IS READ AS IT WAS.
-/
set_option linter.unusedVariables false
set_option linter.unusedSimpArgs false
namespace Go.Proofs.D
open Go Go.Abs
abbrev B (l : List UInt8) : ByteArray := ⟨l.toArray⟩
theorem B_data (s : ByteArray) : B s.data.toList = s := by obtain ⟨a⟩ := s; simp [B]
theorem B_size (l : List UInt8) : (B l).size = l.length := List.size_toArray
theorem B_list (l : List UInt8) : (B l).data.toList = l := by simp [B]
theorem B_inj {l m : List UInt8} (h : B l = B m) : l = m := by
  have := congrArg (fun s : ByteArray => s.data.toList) h
  simpa [B] using this
theorem ext_list {s t : ByteArray} (h : s.data.toList = t.data.toList) : s = t := by rw [← B_data s, ← B_data t, h]
theorem app_list (s t : ByteArray) : (s ++ t).data.toList = s.data.toList ++ t.data.toList := by simp [ByteArray.data_append]
theorem extract_list (s : ByteArray) (i j : Nat) : (s.extract i j).data.toList = (s.data.toList.take j).drop i := by
  rw [ByteArray.data_extract]
  simp [Array.toList_extract, List.drop_take]
theorem hp_iff (l p : List UInt8) : hasPre (B l) (B p) = true ↔ ∃ r, l = p ++ r := by
  simp only [hasPre, Bool.and_eq_true, decide_eq_true_eq, B_size]
  constructor
  · rintro ⟨h1, h2⟩
    have h3 := congrArg (fun s : ByteArray => s.data.toList) h2
    simp only [extract_list, B_list, List.drop_zero] at h3
    exact ⟨l.drop p.length, by rw [← h3, List.length_take, Nat.min_eq_left h1]; exact (List.take_append_drop _ _).symm⟩
  · rintro ⟨r, rfl⟩
    refine ⟨by simp, ext_list ?_⟩
    rw [extract_list, B_list, B_list]
    simp
theorem hp_yes (p r : List UInt8) : hasPre (B (p ++ r)) (B p) = true := (hp_iff _ _).2 ⟨r, rfl⟩
theorem hp_one (l : List UInt8) (c : UInt8) : hasPre (B l) (B [c]) = true ↔ l.head? = some c := by
  rw [hp_iff]
  cases l with
  | nil => simp
  | cons x l => simp [eq_comm]
theorem hp_one_no {l : List UInt8} {c : UInt8} (h : l.head? ≠ some c) : hasPre (B l) (B [c]) = false := by
  cases hh : hasPre (B l) (B [c]) with
  | false => rfl
  | true => exact absurd ((hp_one l c).1 hh) h
theorem cp_yes (p r : List UInt8) : cutPre (B (p ++ r)) (B p) = B r := by
  unfold cutPre
  rw [if_pos (hp_yes p r)]
  refine ext_list ?_
  rw [extract_list, B_list, B_list, B_size, B_size, List.take_length]
  simp
theorem cp_no {s p : ByteArray} (h : hasPre s p = false) : cutPre s p = s := by simp [cutPre, h]
def isLow (c : UInt8) : Bool := decide (97 ≤ c.toNat) && decide (c.toNat ≤ 122)
theorem tl_B (l : List UInt8) : tl (B l) = B (l.dropWhile isLow) := by
  unfold tl Lib.trimLeftS
  rw [B_list]
  have : (fun b => low.data.toList.contains b) = isLow := by funext b; exact low_contains b
  rw [this]
/-- What a reader reads of a text, if what is behind is as C says; w: how many items it may take. -/
def Reads (read : St → E × St) (txt : List UInt8) (e : E) (w : Nat) (C : List UInt8 → Prop) : Prop :=
  ∀ (r : List UInt8) (m : Int), C r → 0 ≤ m → m + w ≤ 48 → ∃ m' : Int, m ≤ m' ∧ m' ≤ m + w ∧ read ⟨B (txt ++ r), false, m⟩ = (e, ⟨B r, false, m'⟩)
def tailT (sign : UInt8) (txt : E → List UInt8) (xs : List E) : List UInt8 := (xs.map fun y => sign :: txt y).flatten
theorem tailT_len (sign : UInt8) (txt : E → List UInt8) : ∀ xs : List E, xs.length ≤ (tailT sign txt xs).length
  | [] => by simp
  | y :: ys => by have := tailT_len sign txt ys; simp [tailT] at this ⊢; omega
theorem rounds_reads {read : St → E × St} {sign : UInt8} {C : List UInt8 → Prop} (hC : ∀ r, C (sign :: r)) (txt : E → List UInt8) (w : E → Nat) : ∀ (xs : List E), (∀ y ∈ xs, Reads read (txt y) y (w y) C) → ∀ (n : Nat) (acc : List E) (r : List UInt8) (m : Int),
    xs.length < n → C r → r.head? ≠ some sign → 0 ≤ m → m + (xs.map w).sum ≤ 48 → ∃ m' : Int, m ≤ m' ∧ m' ≤ m + (xs.map w).sum ∧ rounds read (B [sign]) n acc ⟨B (tailT sign txt xs ++ r), false, m⟩ = (acc ++ xs, ⟨B r, false, m'⟩)
  | [], _, n, acc, r, m, hn, hr, hh, h0, hm => by
    obtain ⟨n, rfl⟩ : ∃ k, n = k + 1 := ⟨n - 1, by simp at hn; omega⟩
    refine ⟨m, Int.le_refl _, by simp, ?_⟩
    have := hp_one_no hh
    simp [rounds, tailT, this, St.cut, cp_no this]
  | y :: ys, hr', n, acc, r, m, hn, hr, hh, h0, hm => by
    obtain ⟨n, rfl⟩ : ∃ k, n = k + 1 := ⟨n - 1, by simp at hn; omega⟩
    have e1 : tailT sign txt (y :: ys) ++ r = [sign] ++ (txt y ++ (tailT sign txt ys ++ r)) := by simp [tailT]
    have hC' : C (tailT sign txt ys ++ r) := by
      cases ys with
      | nil => simpa [tailT] using hr
      | cons z zs => simp only [tailT, List.map_cons, List.flatten_cons, List.cons_append]; exact hC _
    simp only [List.map_cons, List.sum_cons] at hm ⊢
    obtain ⟨m1, a1, a2, a3⟩ := hr' y (by simp) (tailT sign txt ys ++ r) m hC' h0 (by omega)
    obtain ⟨m2, b1, b2, b3⟩ := rounds_reads hC txt w ys (fun z hz => hr' z (by simp [hz])) n (acc ++ [y]) r m1 (by simp at hn; omega) hr hh (by omega) (by omega)
    refine ⟨m2, by omega, by omega, ?_⟩
    have hc : (⟨B (tailT sign txt (y :: ys) ++ r), false, m⟩ : St).cut (B [sign]) = ⟨B (txt y ++ (tailT sign txt ys ++ r)), false, m⟩ := by
      simp only [St.cut, e1, cp_yes]
    have hp : hasPre (⟨B (tailT sign txt (y :: ys) ++ r), false, m⟩ : St).left (B [sign]) = true := by
      show hasPre (B (tailT sign txt (y :: ys) ++ r)) (B [sign]) = true
      rw [e1]; exact hp_yes _ _
    simp only [rounds, hp, hc, a3]
    simpa using b3
theorem several_reads {read : St → E × St} {sign : UInt8} {C : List UInt8 → Prop} (hC : ∀ r, C (sign :: r)) (txt : E → List UInt8) (w : E → Nat) (op : Int) (x : E) (xs : List E) (h : ∀ y ∈ x :: xs, Reads read (txt y) y (w y) C) :
    Reads (several read op (B [sign])) (txt x ++ tailT sign txt xs) (match x :: xs with | [e] => e | l => .mk op ⟨#[]⟩ l) (((x :: xs).map w).sum) (fun r => C r ∧ r.head? ≠ some sign) := by
  intro r m ⟨hr, hh⟩ h0 hm
  simp only [List.map_cons, List.sum_cons] at hm ⊢
  have hC' : C (tailT sign txt xs ++ r) := by
    cases xs with
    | nil => simpa [tailT] using hr
    | cons z zs => simp only [tailT, List.map_cons, List.flatten_cons, List.cons_append]; exact hC _
  obtain ⟨m1, a1, a2, a3⟩ := h x (by simp) (tailT sign txt xs ++ r) m hC' h0 (by omega)
  have hlen : xs.length < (B (txt x ++ tailT sign txt xs ++ r)).size + 1 := by
    rw [B_size]
    have := tailT_len sign txt xs
    simp
    omega
  obtain ⟨m2, b1, b2, b3⟩ := rounds_reads hC txt w xs (fun z hz => h z (by simp [hz])) ((B (txt x ++ tailT sign txt xs ++ r)).size + 1) [x] r m1 hlen hr hh (by omega) (by omega)
  refine ⟨m2, by omega, by omega, ?_⟩
  rw [List.append_assoc] at b3 ⊢
  unfold several
  simp only [a3, b3]
  cases xs <;> rfl
theorem Reads.mono {read : St → E × St} {txt : List UInt8} {e : E} {w w' : Nat} {C C' : List UInt8 → Prop} (h : Reads read txt e w C) (hw : w ≤ w') (hC : ∀ r, C' r → C r) : Reads read txt e w' C' := fun r m hr h0 hm => by
  obtain ⟨m', a, b, c⟩ := h r m (hC r hr) h0 (by omega)
  exact ⟨m', a, by omega, c⟩
end Go.Proofs.D
/-
  WHAT IS READ is right, and small.
-/
set_option linter.unusedVariables false
set_option linter.unusedSimpArgs false
namespace Go.Proofs.D
open Go Go.Abs
theorem parse_sound (s : ByteArray) : (parse s = (E.none, 2)) ∨ ((parse s).2 = 0 ∧ (parse s).1.right = true ∧ (parse s).1.text false = s) := by
  unfold parse
  split
  · rename_i h
    exact .inr ⟨rfl, h.2.2.1, h.2.2.2⟩
  · exact .inl rfl
theorem none_small : E.none.small := E.small_mk (by decide) (by simp)
theorem parse_small (s : ByteArray) (hs : s.size ≤ 1000000000) : (parse s).1.small ∧ (parse s).1.cnt ≤ 1000 := by
  have h0 : Ready 49 ⟨s, false, 0⟩ := ⟨rfl, by simp, by simp, by simp, hs⟩
  have hm := altN_made tl_size _ h0
  have a : ((altN tl ⟨s, false, 0⟩).1.cnt : Int) + 1 ≤ 4 * ((altN tl ⟨s, false, 0⟩).2.many - 0) := hm.cnt
  have b := hm.top
  unfold parse
  split
  · exact ⟨hm.small, by show (altN tl ⟨s, false, 0⟩).1.cnt ≤ 1000; omega⟩
  · exact ⟨none_small, by decide⟩
end Go.Proofs.D
/-
  AN EXPRESSION THAT IS WRITTEN IS READ AS IT WAS: by the expression.
-/
set_option linter.unusedVariables false
set_option linter.unusedSimpArgs false
namespace Go.Proofs.D
open Go Go.Abs
abbrev E.txl (b : Bool) (e : E) : List UInt8 := (e.text b).data.toList
theorem par_list (b : Bool) (s : ByteArray) : (par b s).data.toList = if b = true then 40 :: (s.data.toList ++ [41]) else s.data.toList := by
  unfold par
  split
  · rw [app_list, app_list]; rfl
  · rfl
theorem join_list (txt : E → ByteArray) (sign : UInt8) (x : E) (xs : List E) : (joinB ((x :: xs).map txt) (B [sign])).data.toList = (txt x).data.toList ++ tailT sign (fun y => (txt y).data.toList) xs := by
  unfold joinB
  simp only [List.map_cons, Lib.join_cons, List.toList_toArray, List.map_map]
  congr 1
  simp only [Lib.joinTail, tailT, List.map_map]
  rfl
/-- What may stand behind an item. -/
def Cend (r : List UInt8) : Prop := ∀ c, r.head? = some c → isLow c = false ∧ c ≠ 42 ∧ c ≠ 43 ∧ c ≠ 63
theorem Cend_cons {c : UInt8} (h1 : isLow c = false) (h2 : c ≠ 42) (h3 : c ≠ 43) (h4 : c ≠ 63) (r : List UInt8) : Cend (c :: r) := by
  intro d hd
  simp at hd
  subst hd
  exact ⟨h1, h2, h3, h4⟩
abbrev seqR (k : Nat) : St → E × St := several (itemN tl k) 115 ⟨#[32]⟩
abbrev altR (k : Nat) : St → E × St := several (seqR k) 97 ⟨#[124]⟩
abbrev Cseq (r : List UInt8) : Prop := Cend r ∧ r.head? ≠ some 32
abbrev Calt (r : List UInt8) : Prop := Cseq r ∧ r.head? ≠ some 124
theorem kids_sum (e : E) : (e.kids.map E.cnt).sum + 1 = e.cnt := by rw [cnt_eq]; omega
/-- A sequence, or what stands for itself, as seq reads it. -/
theorem seq_reads (k : Nat) (e : E) (hok : e.ok = true) (hna : e.op ≠ 97) (hself : e.op ≠ 115 ∨ e.kids = [] → Reads (itemN tl k) (e.txl true) e e.cnt Cend) (hkids : e.op = 115 → ∀ y ∈ e.kids, Reads (itemN tl k) (y.txl true) y y.cnt Cend) (w : Nat) (hw1 : e.op = 115 ∧ e.kids ≠ [] → e.cnt - 1 ≤ w) (hw2 : ¬ (e.op = 115 ∧ e.kids ≠ []) → e.cnt ≤ w) : Reads (seqR k) (e.txl false) e w Cseq := by
  by_cases h : e.op = 115 ∧ e.kids ≠ []
  · have hw := hw1 h
    obtain ⟨h1, h2⟩ := h
    rcases E.ok_ops hok with ⟨h, _⟩ | ⟨_, hn, hl⟩ | ⟨h, _⟩ | ⟨h, _⟩
    · omega
    · match hkk : e.kids, h2, hl with
      | [_], _, hl => simp at hl
      | x :: y :: l, _, _ =>
        have hs := several_reads (sign := 32) (C := Cend) (Cend_cons (by decide) (by decide) (by decide) (by decide)) (E.txl true) E.cnt 115 x (y :: l) (fun z hz => hkids h1 z (by rw [hkk]; exact hz))
        have htxt : e.txl false = x.txl true ++ tailT 32 (E.txl true) (y :: l) := by
          unfold E.txl
          rw [text_eq, if_neg (by omega), if_pos h1, if_neg (by rw [hkk]; simp), par_list, if_neg (by simp), hkk]
          have : (!decide (e.op = 97)) = true := by simp [h1]
          rw [this]
          exact join_list (fun z => z.text true) 32 x (y :: l)
        have he : e = .mk 115 ⟨#[]⟩ (x :: y :: l) := by
          obtain ⟨o, n, ks⟩ := e
          simp only [E.op, E.name, E.kids] at h1 hn hkk
          rw [h1, hn, hkk]
        rw [htxt]
        have hc := kids_sum e
        rw [hkk] at hc
        conv => arg 3; rw [he]
        exact hs.mono (by omega) (fun r hr => hr)
    · omega
    · omega
  · have hw := hw2 h
    have h' : e.op ≠ 115 ∨ e.kids = [] := by
      by_cases h1 : e.op = 115
      · right
        exact Classical.byContradiction fun h2 => h ⟨h1, h2⟩
      · exact .inl h1
    have hs := several_reads (sign := 32) (C := Cend) (Cend_cons (by decide) (by decide) (by decide) (by decide)) (E.txl true) E.cnt 115 e [] (fun z hz => by simp at hz; subst hz; exact hself h')
    have htxt : e.txl false = e.txl true ++ tailT 32 (E.txl true) [] := by
      simp only [tailT, List.map_nil, List.flatten_nil, List.append_nil]
      unfold E.txl
      rw [text_eq e false, text_eq e true]
      by_cases h1 : e.op = 110
      · simp [h1]
      · by_cases h2 : e.op = 115
        · have : e.kids = [] := by rcases h' with h | h; exact absurd h2 h; exact h
          simp [h2, this]
        · simp [h1, h2, hna]
    rw [htxt]
    exact hs.mono (by simpa using hw) (fun r hr => hr)
/-- Whatever it is, as alt reads it. -/
theorem alt_reads (k : Nat) (e : E) (hok : e.ok = true) (w : Nat) (hself : e.op ≠ 97 → Reads (seqR k) (e.txl false) e w Cseq) (hkids : e.op = 97 → ∀ y ∈ e.kids, Reads (seqR k) (y.txl false) y y.cnt Cseq) (hw1 : e.op = 97 → e.cnt - 1 ≤ w) : Reads (altR k) (e.txl false) e w Calt := by
  have hC : ∀ r, Cseq (124 :: r) := fun r => ⟨Cend_cons (by decide) (by decide) (by decide) (by decide) r, by simp⟩
  by_cases h1 : e.op = 97
  · have hw := hw1 h1
    rcases E.ok_ops hok with ⟨h, _⟩ | ⟨h, _⟩ | ⟨_, hn, hl⟩ | ⟨h, _⟩
    · omega
    · omega
    · match hkk : e.kids, hl with
      | x :: y :: l, _ =>
        have hs := several_reads (sign := 124) (C := Cseq) hC (E.txl false) E.cnt 97 x (y :: l) (fun z hz => hkids h1 z (by rw [hkk]; exact hz))
        have htxt : e.txl false = x.txl false ++ tailT 124 (E.txl false) (y :: l) := by
          unfold E.txl
          rw [text_eq, if_neg (by omega), if_neg (by omega), if_pos h1, par_list, if_neg (by simp), hkk]
          have : (!decide (e.op = 97)) = false := by simp [h1]
          rw [this]
          exact join_list (fun z => z.text false) 124 x (y :: l)
        have he : e = .mk 97 ⟨#[]⟩ (x :: y :: l) := by
          obtain ⟨o, n, ks⟩ := e
          simp only [E.op, E.name, E.kids] at h1 hn hkk
          rw [h1, hn, hkk]
        rw [htxt]
        have hc := kids_sum e
        rw [hkk] at hc
        conv => arg 3; rw [he]
        exact hs.mono (by omega) (fun r hr => hr)
    · omega
  · have hs := several_reads (sign := 124) (C := Cseq) hC (E.txl false) (fun _ => w) 97 e [] (fun z hz => by simp at hz; subst hz; exact hself h1)
    have htxt : e.txl false = e.txl false ++ tailT 124 (E.txl false) [] := by simp [tailT]
    rw [htxt]
    exact hs.mono (by simp) (fun r hr => hr)
end Go.Proofs.D
/-
  STATES THAT MEAN THE SAME ARE MADE ONE: the least table.
-/
set_option linter.unusedVariables false
set_option linter.unusedSimpArgs false
namespace Go.Proofs.D
open Go Go.Abs
/-- Numbers of what is alike, as it is met; how many there are. -/
def relab {α : Type} [DecidableEq α] (l : List α) : List Int × Nat := ((rowK id [] (l.map some)).2, (rowK id [] (l.map some)).1.length)
theorem relab_spec {α : Type} [DecidableEq α] (l : List α) : (relab l).1.length = l.length ∧ (∀ (i : Nat) (x : α), l[i]? = some x → ∃ n : Nat, (relab l).1[i]? = some (n : Int) ∧ n < (relab l).2) ∧
    (∀ (i j : Nat) (x y : α) (s t : Int), l[i]? = some x → l[j]? = some y → (relab l).1[i]? = some s → (relab l).1[j]? = some t → (s = t ↔ x = y)) ∧ (∀ v, v < (relab l).2 → ∃ i : Nat, (relab l).1[i]? = some (v : Int)) := by
  obtain ⟨m, h1, h2, h3, h4, h5, _⟩ := rowK_spec (σ := α) (κ := α) id (l.map some) [] (by simp)
  rw [List.length_map] at h4
  unfold relab
  rw [List.nil_append] at h1
  generalize rowK id [] (l.map some) = p at h1 h2 h4 h5
  obtain ⟨all, r⟩ := p
  simp only at h1 h2 h4 h5
  subst h1
  rw [List.map_id] at h2
  have say : ∀ (i : Nat) (x : α), l[i]? = some x → ∃ n : Nat, r[i]? = some (n : Int) ∧ all[n]? = some x := fun i x hx => by
    have hi := (List.getElem?_eq_some_iff.1 hx).1
    have hr : r[i]? = some (r[i]'(by omega)) := by simp
    obtain ⟨n, e, hn⟩ := h5 i (some x) _ (by rw [List.getElem?_map, hx]; rfl) hr
    rw [List.map_id] at hn
    exact ⟨n, by rw [hr, e], hn⟩
  refine ⟨h4, fun i x hx => ?_, fun i j x y s t hx hy hs ht => ?_, fun v hv => ?_⟩
  · obtain ⟨n, a, b⟩ := say i x hx
    exact ⟨n, a, (List.getElem?_eq_some_iff.1 b).1⟩
  · obtain ⟨n, a, b⟩ := say i x hx
    obtain ⟨n', a', b'⟩ := say j y hy
    rw [hs] at a
    rw [ht] at a'
    cases a
    cases a'
    constructor
    · intro e
      have : n = n' := by omega
      subst this
      rw [b] at b'
      exact Option.some.inj b'
    · intro e
      subst e
      obtain ⟨p1, p2⟩ := List.getElem?_eq_some_iff.1 b
      obtain ⟨q1, q2⟩ := List.getElem?_eq_some_iff.1 b'
      rcases Nat.lt_trichotomy n n' with g | g | g
      · exact absurd (p2.trans q2.symm) (List.pairwise_iff_getElem.1 h2 _ _ p1 q1 g)
      · omega
      · exact absurd (q2.trans p2.symm) (List.pairwise_iff_getElem.1 h2 _ _ q1 p1 g)
  · obtain ⟨x, hx⟩ : ∃ x, all[v]? = some x := ⟨all[v], by simp⟩
    have hxl := h3 x (List.mem_of_getElem? hx)
    obtain ⟨y, hy, e⟩ := List.mem_map.1 hxl
    cases e
    obtain ⟨i, hi⟩ := List.getElem?_of_mem hy
    obtain ⟨n, a, b⟩ := say i x hi
    obtain ⟨p1, p2⟩ := List.getElem?_eq_some_iff.1 b
    obtain ⟨q1, q2⟩ := List.getElem?_eq_some_iff.1 hx
    have : n = v := by
      rcases Nat.lt_trichotomy n v with g | g | g
      · exact absurd (p2.trans q2.symm) (List.pairwise_iff_getElem.1 h2 _ _ p1 q1 g)
      · exact g
      · exact absurd (q2.trans p2.symm) (List.pairwise_iff_getElem.1 h2 _ _ q1 p1 g)
    exact ⟨i, by rw [a, this]⟩
def clsOf (C : List Int) (t : Int) : Int := if t < 0 then -1 else C.getD t.toNat 0
def signOf (d : Au) (C : List Int) (i : Nat) : List Int := C.getD i 0 :: ((d.next[i]?).getD []).map (clsOf C)
def signs (d : Au) (C : List Int) : List (List Int) := (List.range d.next.length).map (signOf d C)
def cls0 (d : Au) : List Int := d.final.map fun b => if b = true then 1 else 0
/-- What is known of classes: what means the same is in one; in one, rows end alike; those up to many are there. -/
structure Cls (d : Au) (L : Nat → Row → Prop) (C : List Int) (many : Nat) : Prop where
  len : C.length = d.next.length
  pos : ∀ c ∈ C, 0 ≤ c
  alike : ∀ i j, i < d.next.length → j < d.next.length → (∀ w, L i w ↔ L j w) → C.getD i 0 = C.getD j 0
  fin : ∀ i j, i < d.next.length → j < d.next.length → C.getD i 0 = C.getD j 0 → d.final.getD i false = d.final.getD j false
  all : ∀ v, v < many → ∃ i : Nat, i < d.next.length ∧ C.getD i 0 = v
def Exact (d : Au) (L : Nat → Row → Prop) (C : List Int) : Prop := ∀ i j, i < d.next.length → j < d.next.length → (C.getD i 0 = C.getD j 0 ↔ ∀ w, L i w ↔ L j w)
theorem stp_st {d : Au} {L : Nat → Row → Prop} (h : Sem0 d L) (hn : d.names.Nodup) {i : Nat} (hi : i < d.next.length) (a : ByteArray) : d.st (d.stp i a) ∧ ∀ w, L i (a :: w) ↔ LI L (d.stp i a) w := by
  obtain ⟨h1, h2⟩ := sem_step h (s := i) (.inr ⟨by omega, by simpa using hi⟩) a
  refine ⟨h1, fun w => ?_⟩
  rw [← h2 w]
  unfold LI
  simp
/-- Whether there is a next state hangs on what is meant. -/
def Even (d : Au) (L : Nat → Row → Prop) : Prop := ∀ i j, i < d.next.length → j < d.next.length → ∀ a ∈ d.names, (∀ w, L i (a :: w) ↔ L j (a :: w)) → (d.stp i a < 0 ↔ d.stp j a < 0)
theorem even_live {d : Au} {L : Nat → Row → Prop} (h : Sem d L) (hn : d.names.Nodup) : Even d L := by
  intro i j hi hj a ha hL
  obtain ⟨p1, p2⟩ := stp_st h.toSem0 hn hi a
  obtain ⟨q1, q2⟩ := stp_st h.toSem0 hn hj a
  constructor
  · intro hlt
    have := sem_dead h q1 fun w q => by
      have := (p2 w).1 ((hL w).2 ((q2 w).2 q))
      have := this.1
      omega
    omega
  · intro hlt
    have := sem_dead h p1 fun w q => by
      have := (q2 w).1 ((hL w).1 ((p2 w).2 q))
      have := this.1
      omega
    omega
theorem clsOf_alike {d : Au} {L : Nat → Row → Prop} (h : Sem0 d L) (hn : d.names.Nodup) (hz : Even d L) {C : List Int} {many : Nat} (hC : Cls d L C many) {i j : Nat} (hi : i < d.next.length) (hj : j < d.next.length) {a : ByteArray} (ha : a ∈ d.names) (hL : ∀ w, L i (a :: w) ↔ L j (a :: w)) : clsOf C (d.stp i a) = clsOf C (d.stp j a) := by
  have hz := hz i j hi hj a ha hL
  obtain ⟨p1, p2⟩ := stp_st h hn hi a
  obtain ⟨q1, q2⟩ := stp_st h hn hj a
  unfold clsOf
  by_cases h0 : d.stp i a < 0
  · rw [if_pos h0, if_pos (hz.1 h0)]
  · have h1 : ¬ d.stp j a < 0 := fun q => h0 (hz.2 q)
    rw [if_neg h0, if_neg h1]
    have hs' : (d.stp i a).toNat < d.next.length := by rcases p1 with q | q; omega; exact q.2
    have ht' : (d.stp j a).toNat < d.next.length := by rcases q1 with q | q; omega; exact q.2
    refine hC.alike _ _ hs' ht' fun w => ?_
    have e1 := p2 w
    have e2 := q2 w
    unfold LI at e1 e2
    constructor
    · intro q; exact (e2.1 ((hL w).1 (e1.2 ⟨by omega, q⟩))).2
    · intro q; exact (e1.1 ((hL w).2 (e2.2 ⟨by omega, q⟩))).2
theorem signs_get {d : Au} {L : Nat → Row → Prop} (h : Sem0 d L) (hn : d.names.Nodup) {C : List Int} {i : Nat} (hi : i < d.next.length) : (signs d C)[i]? = some (signOf d C i) := by simp [signs, hi]
section
variable {d : Au} {L : Nat → Row → Prop} (h : Sem0 d L) (hn : d.names.Nodup) (hz : Even d L)
include h
theorem cls_start : Cls d L (cls0 d) 0 := by
  have hg : ∀ i, i < d.next.length → (cls0 d).getD i 0 = if d.final.getD i false = true then 1 else 0 := fun i hi => by
    have : i < d.final.length := by rw [h.len]; exact hi
    simp [cls0, List.getD, this]
  refine ⟨by rw [cls0, List.length_map, h.len], fun c hc => ?_, fun i j hi hj hL => ?_, fun i j hi hj hc => ?_, fun v hv => absurd hv (by omega)⟩
  · obtain ⟨b, _, rfl⟩ := List.mem_map.1 hc
    split <;> decide
  · rw [hg i hi, hg j hj]
    have e : d.final.getD i false = d.final.getD j false := by
      rw [Bool.eq_iff_iff, h.fin i hi, h.fin j hj]
      exact hL []
    rw [e]
  · rw [hg i hi, hg j hj] at hc
    generalize d.final.getD i false = x at hc ⊢
    generalize d.final.getD j false = y at hc ⊢
    cases x <;> cases y <;> simp at hc ⊢
include hn
theorem sign_step {C : List Int} {i j : Nat} (hi : i < d.next.length) (hj : j < d.next.length) : signOf d C i = signOf d C j ↔ C.getD i 0 = C.getD j 0 ∧ ∀ a ∈ d.names, clsOf C (d.stp i a) = clsOf C (d.stp j a) := by
  have e1 : d.next[i]? = some d.next[i] := by simp
  have e2 : d.next[j]? = some d.next[j] := by simp
  have l1 := h.row d.next[i] (List.getElem_mem _)
  have l2 := h.row d.next[j] (List.getElem_mem _)
  unfold signOf
  rw [e1, e2, Option.getD_some, Option.getD_some, List.cons.injEq]
  refine and_congr_right fun _ => ?_
  constructor
  · intro e a ha
    obtain ⟨k, hk⟩ := List.getElem?_of_mem ha
    have g1 := getRow h hn e1 hk
    have g2 := getRow h hn e2 hk
    have := congrArg (fun l : List Int => l[k]?) e
    simp only [List.getElem?_map, g1, g2, Option.map_some, Option.some.injEq] at this
    exact this
  · intro e
    apply List.ext_getElem?
    intro k
    by_cases hk : k < d.names.length
    · have hk' : d.names[k]? = some d.names[k] := by simp
      rw [List.getElem?_map, List.getElem?_map, getRow h hn e1 hk', getRow h hn e2 hk']
      simp [e d.names[k] (List.getElem_mem _)]
    · rw [List.getElem?_eq_none (by simp; omega), List.getElem?_eq_none (by simp; omega)]
include hz
/-- One round: classes are told apart by what stands behind them. -/
theorem cls_round {C : List Int} {many : Nat} (hC : Cls d L C many) : Cls d L (relab (signs d C)).1 (relab (signs d C)).2 ∧ 0 < (relab (signs d C)).2 ∧ many ≤ (relab (signs d C)).2 ∧ (relab (signs d C)).2 ≤ d.next.length ∧ ((relab (signs d C)).2 = many → Exact d L (relab (signs d C)).1 ∧ Exact d L C) ∧ (∀ i j, i < d.next.length → j < d.next.length → (relab (signs d C)).1.getD i 0 = (relab (signs d C)).1.getD j 0 → C.getD i 0 = C.getD j 0) := by
  obtain ⟨r1, r2, r3, r4⟩ := relab_spec (signs d C)
  have hsl : (signs d C).length = d.next.length := by simp [signs]
  rw [hsl] at r1
  generalize relab (signs d C) = p at r1 r2 r3 r4
  obtain ⟨C', many'⟩ := p
  simp only at r1 r2 r3 r4 ⊢
  have hsg := fun i hi => signs_get (C := C) h hn (i := i) hi
  have hlab : ∀ i, i < d.next.length → ∃ n : Nat, C'.getD i 0 = n ∧ n < many' ∧ C'[i]? = some (n : Int) := fun i hi => by
    obtain ⟨n, a, b⟩ := r2 i _ (hsg i hi)
    exact ⟨n, by simp [List.getD, a], b, a⟩
  have hiff : ∀ i j, i < d.next.length → j < d.next.length → (C'.getD i 0 = C'.getD j 0 ↔ signOf d C i = signOf d C j) := fun i j hi hj => by
    obtain ⟨n, a, b, c⟩ := hlab i hi
    obtain ⟨n', a', b', c'⟩ := hlab j hj
    rw [a, a']
    exact r3 i j _ _ _ _ (hsg i hi) (hsg j hj) c c'
  have hidx : ∀ v, v < many' → ∃ i : Nat, i < d.next.length ∧ C'.getD i 0 = v := fun v hv => by
    obtain ⟨i, hi⟩ := r4 v hv
    have := (List.getElem?_eq_some_iff.1 hi).1
    exact ⟨i, by omega, by simp [List.getD, hi]⟩
  have hCls : Cls d L C' many' := by
    refine ⟨r1, fun c hc => ?_, fun i j hi hj hL => ?_, fun i j hi hj hc => ?_, hidx⟩
    · obtain ⟨i, hi⟩ := List.getElem?_of_mem hc
      have hil := (List.getElem?_eq_some_iff.1 hi).1
      obtain ⟨n, a, b, e⟩ := hlab i (by omega)
      rw [hi] at e
      cases e
      omega
    · refine (hiff i j hi hj).2 ((sign_step h hn hi hj).2 ⟨hC.alike i j hi hj hL, fun a ha => ?_⟩)
      exact clsOf_alike h hn hz hC hi hj ha fun w => hL (a :: w)
    · exact hC.fin i j hi hj ((sign_step h hn hi hj).1 ((hiff i j hi hj).1 hc)).1
  -- how many there are
  have hle : many' ≤ d.next.length := by
    have := nodup_sub_len ((List.range many').map fun v : Nat => (v : Int)) C' (nodup_map _ _ List.nodup_range fun x _ y _ e => by omega) fun x hx => by
      obtain ⟨v, hv, rfl⟩ := List.mem_map.1 hx
      obtain ⟨i, hi⟩ := r4 v (List.mem_range.1 hv)
      exact List.mem_of_getElem? hi
    simp at this
    omega
  have hreach : ∀ (V : List Int), V.Nodup → (∀ c ∈ V, ∃ i : Nat, i < d.next.length ∧ C.getD i 0 = c) → ∀ (X : List Nat), (∀ i, i < d.next.length → ∃ v ∈ X, C.getD i 0 = C.getD ((fun v => if hv : v < many' then (hidx v hv).choose else 0) v) 0) → V.length ≤ X.length := by
    intro V hV hc X hX
    have := nodup_sub_len V (X.map fun v => C.getD ((fun v => if hv : v < many' then (hidx v hv).choose else 0) v) 0) hV fun c hcv => by
      obtain ⟨i, hi, e⟩ := hc c hcv
      obtain ⟨v, hv, e'⟩ := hX i hi
      exact List.mem_map.2 ⟨v, hv, by rw [← e', e]⟩
    rwa [List.length_map] at this
  have hrep : ∀ (v : Nat) (hv : v < many'), (hidx v hv).choose < d.next.length ∧ C'.getD (hidx v hv).choose 0 = v := fun v hv => (hidx v hv).choose_spec
  have hcov : ∀ i, i < d.next.length → ∃ v, v < many' ∧ C'.getD i 0 = v ∧ C.getD i 0 = C.getD ((fun v => if hv : v < many' then (hidx v hv).choose else 0) v) 0 := fun i hi => by
    obtain ⟨n, a, b, _⟩ := hlab i hi
    refine ⟨n, b, a, ?_⟩
    simp only [dif_pos b]
    obtain ⟨x, y⟩ := hrep n b
    exact ((sign_step h hn hi x).1 ((hiff i _ hi x).1 (a.trans y.symm))).1
  have hV : ∀ c ∈ (List.range many).map (fun v : Nat => (v : Int)), ∃ i : Nat, i < d.next.length ∧ C.getD i 0 = c := fun c hc => by
    obtain ⟨v, hv, rfl⟩ := List.mem_map.1 hc
    exact hC.all v (List.mem_range.1 hv)
  have hVn : ((List.range many).map (fun v : Nat => (v : Int))).Nodup := nodup_map _ _ List.nodup_range fun x _ y _ e => by omega
  have hmm : many ≤ many' := by
    have := hreach _ hVn hV (List.range many') fun i hi => by
      obtain ⟨v, a, _, b⟩ := hcov i hi
      exact ⟨v, List.mem_range.2 a, b⟩
    simpa using this
  refine ⟨hCls, ?_, hmm, hle, fun heq => ?_, fun i j hi hj hc => ((sign_step h hn hi hj).1 ((hiff i j hi hj).1 hc)).1⟩
  · obtain ⟨n, _, b, _⟩ := hlab 0 h.pos
    omega
  · subst heq
    -- the rounds before told as many apart
    have hsame : ∀ i j, i < d.next.length → j < d.next.length → C.getD i 0 = C.getD j 0 → C'.getD i 0 = C'.getD j 0 := by
      intro i j hi hj hc
      refine Classical.byContradiction fun hne => ?_
      obtain ⟨vi, a1, a2, a3⟩ := hcov i hi
      obtain ⟨vj, b1, b2, b3⟩ := hcov j hj
      have hvij : vi ≠ vj := fun e => hne (by rw [a2, b2, e])
      have := hreach _ hVn hV ((List.range many').filter (fun v => decide (v ≠ vj))) fun k hk => by
        obtain ⟨v, c1, c2, c3⟩ := hcov k hk
        by_cases hv : v = vj
        · exact ⟨vi, by simp [a1, hvij], by rw [c3, hv, ← b3, ← hc, a3]⟩
        · exact ⟨v, by simp [c1, hv], c3⟩
      have hfl : ((List.range many').filter (fun v => decide (v ≠ vj))).length < many' := by
        have h1 : ((List.range many').filter (fun v => decide (v ≠ vj))).length ≤ ((List.range many').erase vj).length := nodup_sub_len _ _ (List.nodup_range.filter _) fun x hx => by
          simp at hx
          exact (List.mem_erase_of_ne hx.2).2 (List.mem_range.2 hx.1)
        have h2 := List.length_erase_of_mem (List.mem_range.2 b1)
        simp at h2
        omega
      simp only [List.length_map, List.length_range] at this
      omega
    have hstab : ∀ i j, i < d.next.length → j < d.next.length → C.getD i 0 = C.getD j 0 → ∀ a ∈ d.names, clsOf C (d.stp i a) = clsOf C (d.stp j a) := fun i j hi hj hc => ((sign_step h hn hi hj).1 ((hiff i j hi hj).1 (hsame i j hi hj hc))).2
    have hlang : ∀ (w : Row) (i j : Nat), i < d.next.length → j < d.next.length → C.getD i 0 = C.getD j 0 → (L i w ↔ L j w) := by
      intro w
      induction w with
      | nil =>
        intro i j hi hj hc
        rw [← h.fin i hi, ← h.fin j hj, hC.fin i j hi hj hc]
      | cons a w ih =>
        intro i j hi hj hc
        by_cases ha : a ∈ d.names
        · obtain ⟨p1, p2⟩ := stp_st h hn hi a
          obtain ⟨q1, q2⟩ := stp_st h hn hj a
          rw [p2 w, q2 w]
          have hcl := hstab i j hi hj hc a ha
          generalize d.stp (i : Int) a = s at p1 hcl
          generalize d.stp (j : Int) a = t at q1 hcl
          have hpos : ∀ k, k < d.next.length → 0 ≤ C.getD k 0 := fun k hk => by
            have hkl : k < C.length := by rw [hC.len]; exact hk
            have := hC.pos C[k] (List.getElem_mem _)
            simpa [List.getD, hkl] using this
          unfold clsOf at hcl
          rcases p1 with rfl | ⟨p0, p1⟩
          · rcases q1 with rfl | ⟨q0, q1⟩
            · rfl
            · have := hpos _ q1
              rw [if_pos (by decide), if_neg (by omega)] at hcl
              omega
          · rcases q1 with rfl | ⟨q0, q1⟩
            · have := hpos _ p1
              rw [if_neg (by omega), if_pos (by decide)] at hcl
              omega
            · rw [if_neg (by omega), if_neg (by omega)] at hcl
              unfold LI
              have := ih s.toNat t.toNat p1 q1 hcl
              simp [p0, q0, this]
        · exact ⟨fun q => absurd (h.only i hi a w q) ha, fun q => absurd (h.only j hj a w q) ha⟩
    refine ⟨fun i j hi hj => ⟨fun hc w => ?_, fun hL => hCls.alike i j hi hj hL⟩, fun i j hi hj => ⟨fun hc w => hlang w i j hi hj hc, fun hL => hC.alike i j hi hj hL⟩⟩
    exact hlang w i j hi hj ((sign_step h hn hi hj).1 ((hiff i j hi hj).1 hc)).1
end
/-- The table whose states are the classes, as they are met. -/
def nextN (d : Au) (s : Nat) : List (Option Nat) := ((d.next[s]?).getD []).map fun t => if t < 0 then none else some t.toNat
def numM (d : Au) (C : List Int) (i : Nat) : List Nat × List (List Int) := met (fun s => C.getD s 0) (nextN d) 0 i
def numbered (d : Au) (C : List Int) : Au := ⟨d.names, (numM d C d.next.length).2, (numM d C d.next.length).1.map fun s => d.final.getD s false⟩
theorem numM_of {d : Au} {L : Nat → Row → Prop} (h : Sem0 d L) (hn : d.names.Nodup) (C : List Int) (i : Nat) : ∀ s ∈ (numM d C i).1, s < d.next.length := by
  refine met_all _ _ _ (fun s => s < d.next.length) h.pos (fun s hs t ht => ?_) i
  obtain ⟨x, hx, e⟩ := List.mem_map.1 ht
  split at e
  · cases e
  · rename_i g
    cases e
    have e1 : d.next[s]? = some d.next[s] := by simp
    rw [e1, Option.getD_some] at hx
    obtain ⟨k, hk⟩ := List.getElem?_of_mem hx
    have hkl := (List.getElem?_eq_some_iff.1 hk).1
    have hkn : k < d.names.length := by rw [← h.row d.next[s] (List.getElem_mem _)]; exact hkl
    have := getRow h hn e1 (show d.names[k]? = some d.names[k] by simp)
    rw [hk] at this
    cases this
    rcases (stp_st h hn hs d.names[k]).1 with q | q
    · omega
    · exact q.2
theorem numM_len {d : Au} {L : Nat → Row → Prop} (h : Sem0 d L) (hn : d.names.Nodup) (C : List Int) (i : Nat) : (numM d C i).1.length ≤ d.next.length := by
  have hM := met_is (fun s => C.getD s 0) (nextN d) 0 i
  have h1 : (numM d C i).1.Nodup := by
    have := hM.nodup
    exact (List.pairwise_map.1 this).imp fun hne e => hne (by rw [e])
  have := nodup_sub_len _ (List.range d.next.length) h1 fun s hs => List.mem_range.2 (numM_of h hn C i s hs)
  simpa using this
def numL (d : Au) (C : List Int) (L : Nat → Row → Prop) (i : Nat) (w : Row) : Prop := ∃ s, (numM d C d.next.length).1[i]? = some s ∧ L s w
theorem numbered_least0 {d : Au} {L : Nat → Row → Prop} (h : Sem0 d L) (hn : d.names.Nodup) {C : List Int} (hC : Exact d L C) (hlive : ∀ s ∈ (numM d C d.next.length).1, ∃ w, L s w) : Least (numbered d C) (numL d C L) ∧ ∀ w, numL d C L 0 w ↔ L 0 w := by
  have hM : Met (fun s => C.getD s 0) (nextN d) 0 d.next.length (numM d C d.next.length).1 (numM d C d.next.length).2 := met_is _ _ _ _
  have hlen := numM_len h hn C d.next.length
  have hof := numM_of h hn C d.next.length
  unfold numbered numL
  generalize numM d C d.next.length = M at hM hlen hof hlive
  obtain ⟨all, rows⟩ := M
  simp only at hM hlen hof hlive
  have h0 := met_pos _ _ _ hM
  have hrl : rows.length = all.length := by rcases hM.many with g | g <;> omega
  have hrow : ∀ i, i < all.length → ∃ s r, all[i]? = some s ∧ rows[i]? = some r ∧ s < d.next.length := fun i hi => ⟨all[i], rows[i]'(by omega), by simp, by simp, hof _ (List.getElem_mem _)⟩
  have hlenr : ∀ r ∈ rows, r.length = d.names.length := fun r hr => by
    obtain ⟨i, hi⟩ := List.getElem?_of_mem hr
    have hil := (List.getElem?_eq_some_iff.1 hi).1
    have hi' : i < all.length := by omega
    have hs := hof all[i] (List.getElem_mem _)
    rw [(hM.row i all[i] r (by simp) hi).1, nextN, List.length_map, List.getElem?_eq_getElem hs, Option.getD_some]
    exact h.row _ (List.getElem_mem _)
  have hst : ∀ (i s : Nat), all[i]? = some s → ∀ a ∈ d.names, Says (fun s => C.getD s 0) all (if d.stp s a < 0 then none else some (d.stp s a).toNat) ((Au.mk d.names rows (all.map fun s => d.final.getD s false)).stp i a) := by
    intro i s hs a ha
    have hil := (List.getElem?_eq_some_iff.1 hs).1
    have hsl := hof s (List.mem_of_getElem? hs)
    have hr : rows[i]? = some (rows[i]'(by omega)) := by simp
    obtain ⟨g1, g2⟩ := hM.row i s _ hs hr
    have hix := ixK_mem ha
    have hxl : ixK a d.names < (rows[i]'(by omega)).length := by rw [hlenr _ (List.getElem_mem _)]; exact ixK_lt ha
    have e1 : d.next[s]? = some d.next[s] := by simp
    have := g2 (ixK a d.names) (if d.stp s a < 0 then none else some (d.stp s a).toNat) _ (by
      unfold nextN
      rw [List.getElem?_map, e1, Option.getD_some, getRow h hn e1 hix]
      rfl) (List.getElem?_eq_getElem hxl)
    have e2 : (Au.mk d.names rows (all.map fun s => d.final.getD s false)).stp i a = (rows[i]'(by omega))[ixK a d.names] := by
      simp only [Au.stp]
      rw [if_neg (by omega), Int.toNat_natCast, hr, Option.getD_some]
      simp [List.getD, hxl]
    rw [e2]
    exact this
  refine ⟨⟨⟨⟨?_, ?_, hlenr, ?_, ?_, ?_⟩, ?_⟩, ?_, ?_⟩, ?_⟩
  · show 0 < rows.length
    omega
  · show (all.map _).length = rows.length
    rw [List.length_map, hrl]
  · intro i hi
    have hi : i < rows.length := hi
    obtain ⟨s, r, hs, hr, hsl⟩ := hrow i (by omega)
    have : (all.map fun s => d.final.getD s false).getD i false = d.final.getD s false := by simp [List.getD, hs]
    show (all.map fun s => d.final.getD s false).getD i false = true ↔ _
    rw [this, h.fin s hsl]
    exact ⟨fun q => ⟨s, hs, q⟩, fun ⟨s', hs', q⟩ => by rw [hs] at hs'; cases hs'; exact q⟩
  · intro i hi a ha
    have hi : i < rows.length := hi
    obtain ⟨s, r, hs, hr, hsl⟩ := hrow i (by omega)
    have hsay := hst i s hs a ha
    obtain ⟨p1, p2⟩ := stp_st h hn hsl a
    by_cases hneg : d.stp s a < 0
    · rw [if_pos hneg] at hsay
      refine .inl ⟨hsay, fun w => ?_⟩
      rintro ⟨s', hs', q⟩
      rw [hs] at hs'
      cases hs'
      exact absurd ((p2 w).1 q).1 (by omega)
    · rw [if_neg hneg] at hsay
      obtain ⟨n, e, hn'⟩ := hsay
      rw [List.getElem?_map] at hn'
      obtain ⟨u, hu, hk⟩ := Option.map_eq_some_iff.1 hn'
      have hul := hof u (List.mem_of_getElem? hu)
      have hnl := (List.getElem?_eq_some_iff.1 hu).1
      have htl : (d.stp s a).toNat < d.next.length := by rcases p1 with q | q; omega; exact q.2
      have hL := (hC u _ hul htl).1 hk
      refine .inr ⟨n, e, by show n < rows.length; omega, fun w => ?_⟩
      constructor
      · rintro ⟨s', hs', q⟩
        rw [hs] at hs'
        cases hs'
        exact ⟨u, hu, (hL w).2 ((p2 w).1 q).2⟩
      · rintro ⟨u', hu', q⟩
        rw [hu] at hu'
        cases hu'
        exact ⟨s, hs, (p2 w).2 ⟨by omega, (hL w).1 q⟩⟩
  · intro i hi a w
    rintro ⟨s, hs, q⟩
    exact h.only s (hof s (List.mem_of_getElem? hs)) a w q
  · intro i hi
    have hi : i < rows.length := hi
    obtain ⟨s, r, hs, hr, hsl⟩ := hrow i (by omega)
    obtain ⟨w, hw⟩ := hlive s (List.mem_of_getElem? hs)
    exact ⟨w, s, hs, hw⟩
  · intro i j hi hj hL
    have hi : i < rows.length := hi
    have hj : j < rows.length := hj
    obtain ⟨s, _, hs, _, hsl⟩ := hrow i (by omega)
    obtain ⟨t, _, ht, _, htl⟩ := hrow j (by omega)
    have he := (hC s t hsl htl).2 fun w => ⟨fun q => by
      obtain ⟨t', ht', q'⟩ := (hL w).1 ⟨s, hs, q⟩
      rw [ht] at ht'
      cases ht'
      exact q', fun q => by
      obtain ⟨s', hs', q'⟩ := (hL w).2 ⟨t, ht, q⟩
      rw [hs] at hs'
      cases hs'
      exact q'⟩
    have g1 : (all.map fun s => C.getD s 0)[i]? = some (C.getD s 0) := by rw [List.getElem?_map, hs]; rfl
    have g2 : (all.map fun s => C.getD s 0)[j]? = some (C.getD s 0) := by rw [List.getElem?_map, ht, he]; rfl
    obtain ⟨p1, p2⟩ := List.getElem?_eq_some_iff.1 g1
    obtain ⟨q1, q2⟩ := List.getElem?_eq_some_iff.1 g2
    rcases Nat.lt_trichotomy i j with g | g | g
    · exact absurd (p2.trans q2.symm) (List.pairwise_iff_getElem.1 hM.nodup _ _ p1 q1 g)
    · exact g
    · exact absurd (q2.trans p2.symm) (List.pairwise_iff_getElem.1 hM.nodup _ _ q1 p1 g)
  · show tabOrd 0 0 rows = some ((rows.length : Int) - 1)
    rw [hM.ord, hrl]
  · intro w
    constructor
    · rintro ⟨s, hs, q⟩
      rw [hM.first] at hs
      cases hs
      exact q
    · intro q
      exact ⟨0, hM.first, q⟩
theorem numbered_least {d : Au} {L : Nat → Row → Prop} (h : Sem d L) (hn : d.names.Nodup) {C : List Int} (hC : Exact d L C) : Least (numbered d C) (numL d C L) ∧ ∀ w, numL d C L 0 w ↔ L 0 w :=
  numbered_least0 h.toSem0 hn hC fun s hs => h.live s (numM_of h.toSem0 hn C _ s hs)
/-- Whatever classes are exact: it is one table. -/
theorem numbered_one {d : Au} {L : Nat → Row → Prop} (h : Sem d L) (hn : d.names.Nodup) {C C' : List Int} (hC : Exact d L C) (hC' : Exact d L C') : numbered d C = numbered d C' := by
  obtain ⟨h1, h2⟩ := numbered_least h hn hC
  obtain ⟨h3, h4⟩ := numbered_least h hn hC'
  obtain ⟨e1, e2⟩ := least_one h1 h3 hn rfl fun w => (h2 w).trans (h4 w).symm
  have : ∀ a b : Au, a.names = b.names → a.next = b.next → a.final = b.final → a = b := fun ⟨_, _, _⟩ ⟨_, _, _⟩ h1 h2 h3 => by
    simp only at h1 h2 h3
    rw [h1, h2, h3]
  exact this _ _ rfl e1 e2
open Classical in
noncomputable def cstar (n : Nat) (L : Nat → Row → Prop) : List Int := (List.range n).map fun i => ((List.range n).findIdx fun j => decide (∀ w, L j w ↔ L i w) : Nat)
open Classical in
theorem cstar_exact (d : Au) (L : Nat → Row → Prop) : Exact d L (cstar d.next.length L) := by
  intro i j hi hj
  have hg : ∀ i, i < d.next.length → (cstar d.next.length L).getD i 0 = ((List.range d.next.length).findIdx fun j => decide (∀ w, L j w ↔ L i w) : Nat) := fun i hi => by simp [cstar, List.getD, hi]
  rw [hg i hi, hg j hj]
  have hf : ∀ i, i < d.next.length → ∃ hlt : (List.range d.next.length).findIdx (fun j => decide (∀ w, L j w ↔ L i w)) < d.next.length, ∀ w, L ((List.range d.next.length).findIdx (fun j => decide (∀ w, L j w ↔ L i w))) w ↔ L i w := fun i hi => by
    have hlt : (List.range d.next.length).findIdx (fun j => decide (∀ w, L j w ↔ L i w)) < (List.range d.next.length).length := List.findIdx_lt_length_of_exists ⟨i, by simp [hi], by simp⟩
    have := List.findIdx_getElem (w := hlt)
    simp only [List.getElem_range, decide_eq_true_eq] at this
    exact ⟨by simpa using hlt, this⟩
  constructor
  · intro e w
    have e : (List.range d.next.length).findIdx (fun j => decide (∀ w, L j w ↔ L i w)) = (List.range d.next.length).findIdx (fun k => decide (∀ w, L k w ↔ L j w)) := by omega
    obtain ⟨_, h1⟩ := hf i hi
    obtain ⟨_, h2⟩ := hf j hj
    rw [e] at h1
    exact (h1 w).symm.trans (h2 w)
  · intro hL
    have : (fun k => decide (∀ w, L k w ↔ L i w)) = fun k => decide (∀ w, L k w ↔ L j w) := by
      funext k
      congr 1
      apply propext
      exact ⟨fun q w => (q w).trans (hL w), fun q w => (q w).trans (hL w).symm⟩
    rw [this]
/-- The least table of what one means. -/
noncomputable def leastA (d : Au) (L : Nat → Row → Prop) : Au := numbered d (cstar d.next.length L)
theorem leastA_eq {d : Au} {L : Nat → Row → Prop} (h : Sem d L) (hn : d.names.Nodup) {C : List Int} (hC : Exact d L C) : numbered d C = leastA d L := numbered_one h hn hC (cstar_exact d L)
end Go.Proofs.D
