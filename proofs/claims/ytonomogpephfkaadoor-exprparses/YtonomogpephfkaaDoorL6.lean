/-
  AN EXPRESSION THAT IS WRITTEN IS READ AS IT WAS.
-/
import Derived.Test.YtonomogpephfkaaDoorD19
import Derived.Test.YtonomogpephfkaaDoorL2
set_option linter.unusedVariables false
set_option linter.unusedSimpArgs false
namespace Go.Proofs.D
open Go Go.Abs
abbrev B (l : List UInt8) : ByteArray := ⟨l.toArray⟩
theorem B_data (s : ByteArray) : B s.data.toList = s := by obtain ⟨a⟩ := s; simp [B]
theorem B_size (l : List UInt8) : (B l).size = l.length := List.size_toArray
theorem B_list (l : List UInt8) : (B l).data.toList = l := by simp [B]
theorem B_inj {l m : List UInt8} (h : B l = B m) : l = m := by
  have := congrArg (fun s : ByteArray => s.data.toList) h
  simpa [B] using this
theorem ext_list {s t : ByteArray} (h : s.data.toList = t.data.toList) : s = t := by rw [← B_data s, ← B_data t, h]
theorem app_list (s t : ByteArray) : (s ++ t).data.toList = s.data.toList ++ t.data.toList := by simp [ByteArray.data_append]
theorem extract_list (s : ByteArray) (i j : Nat) : (s.extract i j).data.toList = (s.data.toList.take j).drop i := by
  rw [ByteArray.data_extract]
  simp [Array.toList_extract, List.drop_take]
theorem hp_iff (l p : List UInt8) : hasPre (B l) (B p) = true ↔ ∃ r, l = p ++ r := by
  simp only [hasPre, Bool.and_eq_true, decide_eq_true_eq, B_size]
  constructor
  · rintro ⟨h1, h2⟩
    have h3 := congrArg (fun s : ByteArray => s.data.toList) h2
    simp only [extract_list, B_list, List.drop_zero] at h3
    exact ⟨l.drop p.length, by rw [← h3, List.length_take, Nat.min_eq_left h1]; exact (List.take_append_drop _ _).symm⟩
  · rintro ⟨r, rfl⟩
    refine ⟨by simp, ext_list ?_⟩
    rw [extract_list, B_list, B_list]
    simp
theorem hp_yes (p r : List UInt8) : hasPre (B (p ++ r)) (B p) = true := (hp_iff _ _).2 ⟨r, rfl⟩
theorem hp_one (l : List UInt8) (c : UInt8) : hasPre (B l) (B [c]) = true ↔ l.head? = some c := by
  rw [hp_iff]
  cases l with
  | nil => simp
  | cons x l => simp [eq_comm]
theorem hp_one_no {l : List UInt8} {c : UInt8} (h : l.head? ≠ some c) : hasPre (B l) (B [c]) = false := by
  cases hh : hasPre (B l) (B [c]) with
  | false => rfl
  | true => exact absurd ((hp_one l c).1 hh) h
theorem cp_yes (p r : List UInt8) : cutPre (B (p ++ r)) (B p) = B r := by
  unfold cutPre
  rw [if_pos (hp_yes p r)]
  refine ext_list ?_
  rw [extract_list, B_list, B_list, B_size, B_size, List.take_length]
  simp
theorem cp_no {s p : ByteArray} (h : hasPre s p = false) : cutPre s p = s := by simp [cutPre, h]
def isLow (c : UInt8) : Bool := decide (97 ≤ c.toNat) && decide (c.toNat ≤ 122)
theorem tl_B (l : List UInt8) : tl (B l) = B (l.dropWhile isLow) := by
  unfold tl Lib.trimLeftS
  rw [B_list]
  have : (fun b => low.data.toList.contains b) = isLow := by funext b; exact low_contains b
  rw [this]
/-- What a reader reads of a text, if what is behind is as C says; w: how many items it may take. -/
def Reads (read : St → E × St) (txt : List UInt8) (e : E) (w : Nat) (C : List UInt8 → Prop) : Prop :=
  ∀ (r : List UInt8) (m : Int), C r → 0 ≤ m → m + w ≤ 48 → ∃ m' : Int, m ≤ m' ∧ m' ≤ m + w ∧ read ⟨B (txt ++ r), false, m⟩ = (e, ⟨B r, false, m'⟩)
def tailT (sign : UInt8) (txt : E → List UInt8) (xs : List E) : List UInt8 := (xs.map fun y => sign :: txt y).flatten
theorem tailT_len (sign : UInt8) (txt : E → List UInt8) : ∀ xs : List E, xs.length ≤ (tailT sign txt xs).length
  | [] => by simp
  | y :: ys => by have := tailT_len sign txt ys; simp [tailT] at this ⊢; omega
theorem rounds_reads {read : St → E × St} {sign : UInt8} {C : List UInt8 → Prop} (hC : ∀ r, C (sign :: r)) (txt : E → List UInt8) (w : E → Nat) : ∀ (xs : List E), (∀ y ∈ xs, Reads read (txt y) y (w y) C) → ∀ (n : Nat) (acc : List E) (r : List UInt8) (m : Int),
    xs.length < n → C r → r.head? ≠ some sign → 0 ≤ m → m + (xs.map w).sum ≤ 48 → ∃ m' : Int, m ≤ m' ∧ m' ≤ m + (xs.map w).sum ∧ rounds read (B [sign]) n acc ⟨B (tailT sign txt xs ++ r), false, m⟩ = (acc ++ xs, ⟨B r, false, m'⟩)
  | [], _, n, acc, r, m, hn, hr, hh, h0, hm => by
    obtain ⟨n, rfl⟩ : ∃ k, n = k + 1 := ⟨n - 1, by simp at hn; omega⟩
    refine ⟨m, Int.le_refl _, by simp, ?_⟩
    have := hp_one_no hh
    simp [rounds, tailT, this, St.cut, cp_no this]
  | y :: ys, hr', n, acc, r, m, hn, hr, hh, h0, hm => by
    obtain ⟨n, rfl⟩ : ∃ k, n = k + 1 := ⟨n - 1, by simp at hn; omega⟩
    have e1 : tailT sign txt (y :: ys) ++ r = [sign] ++ (txt y ++ (tailT sign txt ys ++ r)) := by simp [tailT]
    have hC' : C (tailT sign txt ys ++ r) := by
      cases ys with
      | nil => simpa [tailT] using hr
      | cons z zs => simp only [tailT, List.map_cons, List.flatten_cons, List.cons_append]; exact hC _
    simp only [List.map_cons, List.sum_cons] at hm ⊢
    obtain ⟨m1, a1, a2, a3⟩ := hr' y (by simp) (tailT sign txt ys ++ r) m hC' h0 (by omega)
    obtain ⟨m2, b1, b2, b3⟩ := rounds_reads hC txt w ys (fun z hz => hr' z (by simp [hz])) n (acc ++ [y]) r m1 (by simp at hn; omega) hr hh (by omega) (by omega)
    refine ⟨m2, by omega, by omega, ?_⟩
    have hc : (⟨B (tailT sign txt (y :: ys) ++ r), false, m⟩ : St).cut (B [sign]) = ⟨B (txt y ++ (tailT sign txt ys ++ r)), false, m⟩ := by
      simp only [St.cut, e1, cp_yes]
    have hp : hasPre (⟨B (tailT sign txt (y :: ys) ++ r), false, m⟩ : St).left (B [sign]) = true := by
      show hasPre (B (tailT sign txt (y :: ys) ++ r)) (B [sign]) = true
      rw [e1]; exact hp_yes _ _
    simp only [rounds, hp, hc, a3]
    simpa using b3
theorem several_reads {read : St → E × St} {sign : UInt8} {C : List UInt8 → Prop} (hC : ∀ r, C (sign :: r)) (txt : E → List UInt8) (w : E → Nat) (op : Int) (x : E) (xs : List E) (h : ∀ y ∈ x :: xs, Reads read (txt y) y (w y) C) :
    Reads (several read op (B [sign])) (txt x ++ tailT sign txt xs) (match x :: xs with | [e] => e | l => .mk op ⟨#[]⟩ l) (((x :: xs).map w).sum) (fun r => C r ∧ r.head? ≠ some sign) := by
  intro r m ⟨hr, hh⟩ h0 hm
  simp only [List.map_cons, List.sum_cons] at hm ⊢
  have hC' : C (tailT sign txt xs ++ r) := by
    cases xs with
    | nil => simpa [tailT] using hr
    | cons z zs => simp only [tailT, List.map_cons, List.flatten_cons, List.cons_append]; exact hC _
  obtain ⟨m1, a1, a2, a3⟩ := h x (by simp) (tailT sign txt xs ++ r) m hC' h0 (by omega)
  have hlen : xs.length < (B (txt x ++ tailT sign txt xs ++ r)).size + 1 := by
    rw [B_size]
    have := tailT_len sign txt xs
    simp
    omega
  obtain ⟨m2, b1, b2, b3⟩ := rounds_reads hC txt w xs (fun z hz => h z (by simp [hz])) ((B (txt x ++ tailT sign txt xs ++ r)).size + 1) [x] r m1 hlen hr hh (by omega) (by omega)
  refine ⟨m2, by omega, by omega, ?_⟩
  rw [List.append_assoc] at b3 ⊢
  unfold several
  simp only [a3, b3]
  cases xs <;> rfl
theorem Reads.mono {read : St → E × St} {txt : List UInt8} {e : E} {w w' : Nat} {C C' : List UInt8 → Prop} (h : Reads read txt e w C) (hw : w ≤ w') (hC : ∀ r, C' r → C r) : Reads read txt e w' C' := fun r m hr h0 hm => by
  obtain ⟨m', a, b, c⟩ := h r m (hC r hr) h0 (by omega)
  exact ⟨m', a, by omega, c⟩
end Go.Proofs.D
/-
  AN EXPRESSION THAT IS WRITTEN IS READ AS IT WAS: by the expression.
-/
set_option linter.unusedVariables false
set_option linter.unusedSimpArgs false
namespace Go.Proofs.D
open Go Go.Abs
abbrev E.txl (b : Bool) (e : E) : List UInt8 := (e.text b).data.toList
theorem par_list (b : Bool) (s : ByteArray) : (par b s).data.toList = if b = true then 40 :: (s.data.toList ++ [41]) else s.data.toList := by
  unfold par
  split
  · rw [app_list, app_list]; rfl
  · rfl
theorem join_list (txt : E → ByteArray) (sign : UInt8) (x : E) (xs : List E) : (joinB ((x :: xs).map txt) (B [sign])).data.toList = (txt x).data.toList ++ tailT sign (fun y => (txt y).data.toList) xs := by
  unfold joinB
  simp only [List.map_cons, Lib.join_cons, List.toList_toArray, List.map_map]
  congr 1
  simp only [Lib.joinTail, tailT, List.map_map]
  rfl
/-- What may stand behind an item. -/
def Cend (r : List UInt8) : Prop := ∀ c, r.head? = some c → isLow c = false ∧ c ≠ 42 ∧ c ≠ 43 ∧ c ≠ 63
theorem Cend_cons {c : UInt8} (h1 : isLow c = false) (h2 : c ≠ 42) (h3 : c ≠ 43) (h4 : c ≠ 63) (r : List UInt8) : Cend (c :: r) := by
  intro d hd
  simp at hd
  subst hd
  exact ⟨h1, h2, h3, h4⟩
abbrev seqR (k : Nat) : St → E × St := several (itemN tl k) 115 ⟨#[32]⟩
abbrev altR (k : Nat) : St → E × St := several (seqR k) 97 ⟨#[124]⟩
abbrev Cseq (r : List UInt8) : Prop := Cend r ∧ r.head? ≠ some 32
abbrev Calt (r : List UInt8) : Prop := Cseq r ∧ r.head? ≠ some 124
theorem kids_sum (e : E) : (e.kids.map E.cnt).sum + 1 = e.cnt := by rw [cnt_eq]; omega
/-- A sequence, or what stands for itself, as seq reads it. -/
theorem seq_reads (k : Nat) (e : E) (hok : e.ok = true) (hna : e.op ≠ 97) (hself : e.op ≠ 115 ∨ e.kids = [] → Reads (itemN tl k) (e.txl true) e e.cnt Cend) (hkids : e.op = 115 → ∀ y ∈ e.kids, Reads (itemN tl k) (y.txl true) y y.cnt Cend) (w : Nat) (hw1 : e.op = 115 ∧ e.kids ≠ [] → e.cnt - 1 ≤ w) (hw2 : ¬ (e.op = 115 ∧ e.kids ≠ []) → e.cnt ≤ w) : Reads (seqR k) (e.txl false) e w Cseq := by
  by_cases h : e.op = 115 ∧ e.kids ≠ []
  · have hw := hw1 h
    obtain ⟨h1, h2⟩ := h
    rcases E.ok_ops hok with ⟨h, _⟩ | ⟨_, hn, hl⟩ | ⟨h, _⟩ | ⟨h, _⟩
    · omega
    · match hkk : e.kids, h2, hl with
      | [_], _, hl => simp at hl
      | x :: y :: l, _, _ =>
        have hs := several_reads (sign := 32) (C := Cend) (Cend_cons (by decide) (by decide) (by decide) (by decide)) (E.txl true) E.cnt 115 x (y :: l) (fun z hz => hkids h1 z (by rw [hkk]; exact hz))
        have htxt : e.txl false = x.txl true ++ tailT 32 (E.txl true) (y :: l) := by
          unfold E.txl
          rw [text_eq, if_neg (by omega), if_pos h1, if_neg (by rw [hkk]; simp), par_list, if_neg (by simp), hkk]
          have : (!decide (e.op = 97)) = true := by simp [h1]
          rw [this]
          exact join_list (fun z => z.text true) 32 x (y :: l)
        have he : e = .mk 115 ⟨#[]⟩ (x :: y :: l) := by
          obtain ⟨o, n, ks⟩ := e
          simp only [E.op, E.name, E.kids] at h1 hn hkk
          rw [h1, hn, hkk]
        rw [htxt]
        have hc := kids_sum e
        rw [hkk] at hc
        conv => arg 3; rw [he]
        exact hs.mono (by omega) (fun r hr => hr)
    · omega
    · omega
  · have hw := hw2 h
    have h' : e.op ≠ 115 ∨ e.kids = [] := by
      by_cases h1 : e.op = 115
      · right
        exact Classical.byContradiction fun h2 => h ⟨h1, h2⟩
      · exact .inl h1
    have hs := several_reads (sign := 32) (C := Cend) (Cend_cons (by decide) (by decide) (by decide) (by decide)) (E.txl true) E.cnt 115 e [] (fun z hz => by simp at hz; subst hz; exact hself h')
    have htxt : e.txl false = e.txl true ++ tailT 32 (E.txl true) [] := by
      simp only [tailT, List.map_nil, List.flatten_nil, List.append_nil]
      unfold E.txl
      rw [text_eq e false, text_eq e true]
      by_cases h1 : e.op = 110
      · simp [h1]
      · by_cases h2 : e.op = 115
        · have : e.kids = [] := by rcases h' with h | h; exact absurd h2 h; exact h
          simp [h2, this]
        · simp [h1, h2, hna]
    rw [htxt]
    exact hs.mono (by simpa using hw) (fun r hr => hr)
/-- Whatever it is, as alt reads it. -/
theorem alt_reads (k : Nat) (e : E) (hok : e.ok = true) (w : Nat) (hself : e.op ≠ 97 → Reads (seqR k) (e.txl false) e w Cseq) (hkids : e.op = 97 → ∀ y ∈ e.kids, Reads (seqR k) (y.txl false) y y.cnt Cseq) (hw1 : e.op = 97 → e.cnt - 1 ≤ w) : Reads (altR k) (e.txl false) e w Calt := by
  have hC : ∀ r, Cseq (124 :: r) := fun r => ⟨Cend_cons (by decide) (by decide) (by decide) (by decide) r, by simp⟩
  by_cases h1 : e.op = 97
  · have hw := hw1 h1
    rcases E.ok_ops hok with ⟨h, _⟩ | ⟨h, _⟩ | ⟨_, hn, hl⟩ | ⟨h, _⟩
    · omega
    · omega
    · match hkk : e.kids, hl with
      | x :: y :: l, _ =>
        have hs := several_reads (sign := 124) (C := Cseq) hC (E.txl false) E.cnt 97 x (y :: l) (fun z hz => hkids h1 z (by rw [hkk]; exact hz))
        have htxt : e.txl false = x.txl false ++ tailT 124 (E.txl false) (y :: l) := by
          unfold E.txl
          rw [text_eq, if_neg (by omega), if_neg (by omega), if_pos h1, par_list, if_neg (by simp), hkk]
          have : (!decide (e.op = 97)) = false := by simp [h1]
          rw [this]
          exact join_list (fun z => z.text false) 124 x (y :: l)
        have he : e = .mk 97 ⟨#[]⟩ (x :: y :: l) := by
          obtain ⟨o, n, ks⟩ := e
          simp only [E.op, E.name, E.kids] at h1 hn hkk
          rw [h1, hn, hkk]
        rw [htxt]
        have hc := kids_sum e
        rw [hkk] at hc
        conv => arg 3; rw [he]
        exact hs.mono (by omega) (fun r hr => hr)
    · omega
  · have hs := several_reads (sign := 124) (C := Cseq) hC (E.txl false) (fun _ => w) 97 e [] (fun z hz => by simp at hz; subst hz; exact hself h1)
    have htxt : e.txl false = e.txl false ++ tailT 124 (E.txl false) [] := by simp [tailT]
    rw [htxt]
    exact hs.mono (by simp) (fun r hr => hr)
end Go.Proofs.D
/-
  AN EXPRESSION THAT IS WRITTEN IS READ AS IT WAS: items; the whole.
-/
set_option linter.unusedVariables false
set_option linter.unusedSimpArgs false
namespace Go.Proofs.D
open Go Go.Abs
theorem text_low : ∀ c ∈ (⟨#[116, 101, 120, 116]⟩ : ByteArray).data.toList, isLow c = true := by decide
theorem name_low {e : E} (h : e.ok = true) (h1 : e.op = 110) : (∀ c ∈ e.name.data.toList, isLow c = true) ∧ e.name.data.toList ≠ [] := by
  rw [E.ok_eq] at h
  simp [h1] at h
  rcases h.2 with h | h
  · simp only [isName, Bool.and_eq_true, decide_eq_true_eq, List.all_eq_true] at h
    obtain ⟨⟨⟨h2, h3⟩, h4⟩, _⟩ := h
    refine ⟨fun c hc => by have := h4 c hc; simp [isLow, this], fun hn => ?_⟩
    have : e.name.data.toList.length = e.name.size := Array.length_toList
    rw [hn] at this
    simp at this
    omega
  · rw [h]
    exact ⟨text_low, by decide⟩
theorem head_ok (e : E) (h : e.ok = true) (b : Bool) : ∃ c l, e.txl b = c :: l ∧ c ≠ 41 ∧ (isLow c = true ∨ c = 40) := by
  have hkid : ∀ k ∈ e.kids, ¬ e.op = 110 → ∀ b, ∃ c l, k.txl b = c :: l ∧ c ≠ 41 ∧ (isLow c = true ∨ c = 40) := fun k hk h1 b => head_ok k (E.ok_kids h h1 k hk).1 b
  rcases E.ok_ops h with ⟨h1, _⟩ | ⟨h1, _, h2⟩ | ⟨h1, _, h2⟩ | ⟨h1, _, k, h2, _⟩
  · obtain ⟨a, b'⟩ := name_low h h1
    unfold E.txl
    rw [text_eq, if_pos h1]
    cases hl : e.name.data.toList with
    | nil => exact absurd hl b'
    | cons c l =>
      rw [hl] at a
      have := a c (by simp)
      refine ⟨c, l, rfl, fun hc => ?_, .inl this⟩
      subst hc
      cases this
  · unfold E.txl
    rw [text_eq, if_neg (by omega), if_pos h1]
    split
    · exact ⟨40, [41], rfl, by decide, .inr rfl⟩
    · rw [par_list]
      split
      · exact ⟨40, _, rfl, by decide, .inr rfl⟩
      · cases hkk : e.kids with
        | nil => rename_i h0 _; rw [hkk] at h0; simp at h0
        | cons x xs =>
          obtain ⟨c, l, q1, q2, q3⟩ := hkid x (by rw [hkk]; simp) (by omega) (!decide (e.op = 97))
          have := join_list (fun z => z.text (!decide (e.op = 97))) 32 x xs
          rw [this]
          exact ⟨c, _, by rw [show (x.text (!decide (e.op = 97))).data.toList = c :: l from q1]; rfl, q2, q3⟩
  · unfold E.txl
    rw [text_eq, if_neg (by omega), if_neg (by omega), if_pos h1, par_list]
    split
    · exact ⟨40, _, rfl, by decide, .inr rfl⟩
    · cases hkk : e.kids with
      | nil => rw [hkk] at h2; simp at h2
      | cons x xs =>
        obtain ⟨c, l, q1, q2, q3⟩ := hkid x (by rw [hkk]; simp) (by omega) (!decide (e.op = 97))
        have := join_list (fun z => z.text (!decide (e.op = 97))) 124 x xs
        rw [this]
        exact ⟨c, _, by rw [show (x.text (!decide (e.op = 97))).data.toList = c :: l from q1]; rfl, q2, q3⟩
  · unfold E.txl
    rw [text_eq, if_neg (by omega), if_neg (by omega), if_neg (by omega), app_list, h2]
    obtain ⟨c, l, q1, q2, q3⟩ := hkid k (by rw [h2]; simp) (by omega) (!decide (e.op = 97))
    have e1 : joinB ([k].map fun z => z.text (!decide (e.op = 97))) ⟨#[]⟩ = k.text (!decide (e.op = 97)) := ext_list (by simp [joinB, Lib.join_one])
    rw [e1]
    exact ⟨c, _, by rw [show (k.text (!decide (e.op = 97))).data.toList = c :: l from q1]; rfl, q2, q3⟩
termination_by SizeOf.sizeOf e
decreasing_by exact E.kids_lt hk
/-- What stands ahead of a sign behind it, as item reads it. -/
theorem base_reads (k : Nat) (e : E) (hok : e.ok = true) (hsx : e.suffix = false) (halt : e.op = 97 ∨ (e.op = 115 ∧ e.kids ≠ []) → Reads (altR k) (e.txl false) e (e.cnt - 1) Calt) (r : List UInt8) (m : Int) (hr : ∀ c, r.head? = some c → isLow c = false) (h0 : 0 ≤ m) (hm : m + (e.cnt - 1 : Nat) ≤ 48) :
    ∃ m' : Int, m ≤ m' ∧ m' ≤ m + (e.cnt - 1 : Nat) ∧ baseF tl (altR k) ⟨B (e.txl true ++ r), false, m⟩ = (e, ⟨B r, false, m'⟩) := by
  have hmk : e = .mk e.op e.name e.kids := by obtain ⟨o, n, ks⟩ := e; rfl
  have bracket : e.txl true = 40 :: (e.txl false ++ [41]) → (e.op = 97 ∨ (e.op = 115 ∧ e.kids ≠ [])) → ∃ m' : Int, m ≤ m' ∧ m' ≤ m + (e.cnt - 1 : Nat) ∧ baseF tl (altR k) ⟨B (e.txl true ++ r), false, m⟩ = (e, ⟨B r, false, m'⟩) := by
    intro ht hop
    obtain ⟨c, l, q1, q2, q3⟩ := head_ok e hok false
    obtain ⟨m', a, b, h⟩ := halt hop (41 :: r) m ⟨⟨Cend_cons (by decide) (by decide) (by decide) (by decide) r, by simp⟩, by simp⟩ h0 hm
    refine ⟨m', a, b, ?_⟩
    have e1 : e.txl true ++ r = [40] ++ (e.txl false ++ (41 :: r)) := by rw [ht]; simp
    have p1 : hasPre (B ([40] ++ (e.txl false ++ (41 :: r)))) ⟨#[40, 41]⟩ = false := by
      cases hh : hasPre (B ([40] ++ (e.txl false ++ (41 :: r)))) ⟨#[40, 41]⟩ with
      | false => rfl
      | true =>
        obtain ⟨z, hz⟩ := (hp_iff _ [40, 41]).1 hh
        rw [q1] at hz
        simp at hz
        exact absurd hz.1 q2
    have p2 := hp_yes [40] (e.txl false ++ (41 :: r))
    have p3 := hp_yes [41] r
    unfold baseF
    rw [e1]
    simp only [p1, St.cut, cp_no p1, show hasPre (B ([40] ++ (e.txl false ++ (41 :: r)))) ⟨#[40]⟩ = true from p2, show cutPre (B ([40] ++ (e.txl false ++ (41 :: r)))) ⟨#[40]⟩ = B (e.txl false ++ (41 :: r)) from cp_yes [40] _, h,
      show hasPre (B (41 :: r)) ⟨#[41]⟩ = true from p3, show cutPre (B (41 :: r)) ⟨#[41]⟩ = B r from cp_yes [41] r]
    rfl
  rcases E.ok_ops hok with ⟨h1, hk⟩ | ⟨h1, hn, h2⟩ | ⟨h1, hn, h2⟩ | ⟨h1, hn, x, h2, _⟩
  · obtain ⟨hl, hne⟩ := name_low hok h1
    have ht : e.txl true = e.name.data.toList := by unfold E.txl; rw [text_eq, if_pos h1]
    refine ⟨m, Int.le_refl _, by omega, ?_⟩
    rw [ht]
    have hd : (e.name.data.toList ++ r).dropWhile isLow = r := by
      have : ∀ l : List UInt8, (∀ c ∈ l, isLow c = true) → (l ++ r).dropWhile isLow = r := by
        intro l
        induction l with
        | nil =>
          intro _
          cases r with
          | nil => rfl
          | cons c r => simp [List.dropWhile, hr c rfl]
        | cons x l ih =>
          intro h
          simp [List.dropWhile, h x (by simp), ih fun c hc => h c (by simp [hc])]
      exact this _ hl
    have hh : ∀ x : UInt8, isLow x = false → (e.name.data.toList ++ r).head? ≠ some x := by
      intro x hx
      cases hnl : e.name.data.toList with
      | nil => exact absurd hnl hne
      | cons c l =>
        simp
        intro hc
        subst hc
        rw [hl c (by rw [hnl]; simp)] at hx
        cases hx
    have p1 : hasPre (B (e.name.data.toList ++ r)) ⟨#[40, 41]⟩ = false := by
      cases hq : hasPre (B (e.name.data.toList ++ r)) ⟨#[40, 41]⟩ with
      | false => rfl
      | true =>
        obtain ⟨z, hz⟩ := (hp_iff _ [40, 41]).1 hq
        exact absurd (by rw [hz]; rfl) (hh 40 (by decide))
    have p2 : hasPre (B (e.name.data.toList ++ r)) ⟨#[40]⟩ = false := hp_one_no (hh 40 (by decide))
    have htl : tl (B (e.name.data.toList ++ r)) = B r := by rw [tl_B, hd]
    have hex : (B (e.name.data.toList ++ r)).extract 0 ((B (e.name.data.toList ++ r)).size - (B r).size) = e.name := by
      refine ext_list ?_
      rw [extract_list, B_list, B_size, B_size]
      simp
    unfold baseF
    simp only [p1, St.cut, cp_no p1, p2, cp_no p2, htl, hex]
    conv => rhs; rw [hmk, h1, hk]
    rfl
  · by_cases hk : e.kids = []
    · have ht : e.txl true = [40, 41] := by unfold E.txl; rw [text_eq, if_neg (by omega), if_pos h1, if_pos (by rw [hk]; rfl)]
      refine ⟨m, Int.le_refl _, by omega, ?_⟩
      rw [ht]
      unfold baseF
      have p1 := hp_yes [40, 41] r
      simp only [show hasPre (B ([40, 41] ++ r)) ⟨#[40, 41]⟩ = true from p1, St.cut, show cutPre (B ([40, 41] ++ r)) ⟨#[40, 41]⟩ = B r from cp_yes [40, 41] r]
      conv => rhs; rw [hmk, h1, hk, hn]
      rfl
    · refine bracket ?_ (.inr ⟨h1, hk⟩)
      have ht : ∀ b, e.text b = par b (joinB (e.kids.map fun k => k.text (!decide (e.op = 97))) ⟨#[32]⟩) := fun b => by
        rw [text_eq, if_neg (by omega), if_pos h1, if_neg (by simpa using hk)]
      unfold E.txl
      rw [ht, ht, par_list, par_list]
      simp
  · refine bracket ?_ (.inl h1)
    have ht : ∀ b, e.text b = par b (joinB (e.kids.map fun k => k.text (!decide (e.op = 97))) ⟨#[124]⟩) := fun b => by
      rw [text_eq, if_neg (by omega), if_neg (by omega), if_pos h1]
    unfold E.txl
    rw [ht, ht, par_list, par_list]
    simp
  · exfalso
    simp [E.suffix] at hsx
    omega
theorem sfx_none (e : E) (r : List UInt8) (m : Int) (hr : Cend r) : sfx e [42, 43, 63] ⟨B r, false, m⟩ = (e, ⟨B r, false, m⟩) := by
  have h : ∀ c : UInt8, (c = 42 ∨ c = 43 ∨ c = 63) → hasPre (B r) (B [c]) = false := by
    intro c hc
    refine hp_one_no fun hh => ?_
    have := hr c hh
    rcases hc with rfl | rfl | rfl
    · exact this.2.1 rfl
    · exact this.2.2.1 rfl
    · exact this.2.2.2 rfl
  have h1 : hasPre (B r) ⟨#[42]⟩ = false := h 42 (by simp)
  have h2 : hasPre (B r) ⟨#[43]⟩ = false := h 43 (by simp)
  have h3 : hasPre (B r) ⟨#[63]⟩ = false := h 63 (by simp)
  simp only [sfx, enc42, enc43, enc63, h1, h2, h3, St.cut, cp_no h1, cp_no h2, cp_no h3]
  rfl
theorem sfx_one (e : E) (o : Int) (c : UInt8) (ho : (o = 42 ∧ c = 42) ∨ (o = 43 ∧ c = 43) ∨ (o = 63 ∧ c = 63)) (r : List UInt8) (m : Int) : sfx e [42, 43, 63] ⟨B (c :: r), false, m⟩ = (.mk o ⟨#[]⟩ [e], ⟨B r, false, m⟩) := by
  have hy := hp_yes [c] r
  have hc := cp_yes [c] r
  have hn : ∀ d : UInt8, d ≠ c → hasPre (B (c :: r)) (B [d]) = false := fun d hd => hp_one_no (by simp; exact fun h => hd h.symm)
  rcases ho with ⟨rfl, rfl⟩ | ⟨rfl, rfl⟩ | ⟨rfl, rfl⟩
  · have h1 : hasPre (B (42 :: r)) ⟨#[42]⟩ = true := hy
    have h2 : cutPre (B (42 :: r)) ⟨#[42]⟩ = B r := hc
    simp only [sfx, enc42, h1, St.cut, h2]
    rfl
  · have h1 : hasPre (B (43 :: r)) ⟨#[43]⟩ = true := hy
    have h2 : cutPre (B (43 :: r)) ⟨#[43]⟩ = B r := hc
    have h3 : hasPre (B (43 :: r)) ⟨#[42]⟩ = false := hn 42 (by decide)
    simp only [sfx, enc42, enc43, h1, St.cut, h2, h3, cp_no h3]
    rfl
  · have h1 : hasPre (B (63 :: r)) ⟨#[63]⟩ = true := hy
    have h2 : cutPre (B (63 :: r)) ⟨#[63]⟩ = B r := hc
    have h3 : hasPre (B (63 :: r)) ⟨#[42]⟩ = false := hn 42 (by decide)
    have h4 : hasPre (B (63 :: r)) ⟨#[43]⟩ = false := hn 43 (by decide)
    simp only [sfx, enc42, enc43, enc63, h1, St.cut, h2, h3, cp_no h3, h4, cp_no h4]
    rfl
theorem enc_op {o : Int} (h : o = 42 ∨ o = 43 ∨ o = 63) : ∃ c : UInt8, Utf8.encode (wr .i32 o) = B [c] ∧ ((o = 42 ∧ c = 42) ∨ (o = 43 ∧ c = 43) ∨ (o = 63 ∧ c = 63)) ∧ isLow c = false := by
  rcases h with rfl | rfl | rfl
  · exact ⟨42, enc42, by simp, by decide⟩
  · exact ⟨43, enc43, by simp, by decide⟩
  · exact ⟨63, enc63, by simp, by decide⟩
/-- Each item is read as it was written, whatever fuel is left, if there is enough. -/
theorem item_reads : ∀ (n : Nat) (e : E), e.cnt ≤ n → e.ok = true → ∀ k, e.cnt ≤ k → Reads (itemN tl k) (e.txl true) e e.cnt Cend
  | 0, e, hn, _, _, _ => by have := cnt_eq e; omega
  | n + 1, e, hn, hok, k, hk => by
    have hc := cnt_eq e
    obtain ⟨k, rfl⟩ : ∃ j, k = j + 1 := ⟨k - 1, by omega⟩
    have IH : ∀ y : E, y.cnt < e.cnt → y.ok = true → Reads (itemN tl k) (y.txl true) y y.cnt Cend := fun y hy hyo => item_reads n y (by omega) hyo k (by omega)
    -- a sequence or less, of which all items are smaller
    have SQ : ∀ y : E, y.cnt < e.cnt → y.ok = true → y.op ≠ 97 → Reads (seqR k) (y.txl false) y y.cnt Cseq := fun y hy hyo hna =>
      seq_reads k y hyo hna (fun _ => IH y hy hyo) (fun h115 z hz => IH z (by have := cnt_kid hz; omega) (E.ok_kids hyo (by omega) z hz).1) y.cnt (fun _ => by omega) (fun _ => Nat.le_refl _)
    have AL : ∀ y : E, y.cnt ≤ e.cnt → y.ok = true → (y.op = 97 ∨ (y.op = 115 ∧ y.kids ≠ [])) → Reads (altR k) (y.txl false) y (y.cnt - 1) Calt := fun y hy hyo hop => by
      refine alt_reads k y hyo (y.cnt - 1) (fun h97 => ?_) (fun h97 z hz => ?_) (fun _ => Nat.le_refl _)
      · have h115 : y.op = 115 ∧ y.kids ≠ [] := by rcases hop with h | h; exact absurd h h97; exact h
        exact seq_reads k y hyo h97 (fun h => by rcases h with h | h; exact absurd h115.1 h; exact absurd h h115.2) (fun _ z hz => IH z (by have := cnt_kid hz; omega) (E.ok_kids hyo (by omega) z hz).1) (y.cnt - 1) (fun _ => Nat.le_refl _) (fun h => absurd h115 h)
      · have hz' := E.ok_kids hyo (by omega) z hz
        exact SQ z (by have := cnt_kid hz; omega) hz'.1 (by rw [← h97]; exact hz'.2)
    intro r m hr h0 hm
    have hw : wr .i64 (m + 1) = m + 1 := wr64 _ (by omega)
    have h48 : ¬ 48 < m + 1 := by omega
    cases hsx : e.suffix with
    | false =>
      obtain ⟨m', a, b, h⟩ := base_reads k e hok hsx (AL e (Nat.le_refl _) hok) r (m + 1) (fun c hc => (hr c hc).1) (by omega) (by omega)
      refine ⟨m', by omega, by omega, ?_⟩
      simp only [itemN, itemF, hw, if_neg h48]
      rw [h]
      exact sfx_none e r m' hr
    | true =>
      rcases E.ok_ops hok with ⟨h1, _⟩ | ⟨h1, _⟩ | ⟨h1, _⟩ | ⟨h1, hn', x, h2, hx⟩
      · simp [E.suffix, h1] at hsx
      · simp [E.suffix, h1] at hsx
      · simp [E.suffix, h1] at hsx
      · obtain ⟨c, q1, q2, q3⟩ := enc_op (o := e.op) (by omega)
        have hxo := (E.ok_kids hok (by omega) x (by rw [h2]; simp)).1
        have hcx : e.cnt = 1 + x.cnt := by rw [hc, h2]; simp
        have ht : e.txl true = x.txl true ++ [c] := by
          unfold E.txl
          rw [text_eq, if_neg (by omega), if_neg (by omega), if_neg (by omega), app_list, h2, q1, B_list]
          have e1 : joinB ([x].map fun z => z.text (!decide (e.op = 97))) ⟨#[]⟩ = x.text (!decide (e.op = 97)) := ext_list (by simp [joinB, Lib.join_one])
          have e2 : (!decide (e.op = 97)) = true := by simp; omega
          rw [e1, e2]
        obtain ⟨m', a, b, h⟩ := base_reads k x hxo hx (AL x (by omega) hxo) (c :: r) (m + 1) (fun d hd => by simp at hd; subst hd; exact q3) (by omega) (by omega)
        refine ⟨m', by omega, by omega, ?_⟩
        have he : e = .mk e.op ⟨#[]⟩ [x] := by
          obtain ⟨o, nn, ks⟩ := e
          simp only [E.name, E.kids] at hn' h2
          rw [hn', h2]
          rfl
        simp only [itemN, itemF, hw, if_neg h48]
        rw [ht, List.append_assoc]
        show sfx (baseF tl (altR k) ⟨B (x.txl true ++ ([c] ++ r)), false, m + 1⟩).1 _ (baseF tl (altR k) ⟨B (x.txl true ++ ([c] ++ r)), false, m + 1⟩).2 = _
        rw [show ([c] ++ r : List UInt8) = c :: r from rfl, h, sfx_one x e.op c q2 r m']
        conv => rhs; rw [he]
/-- WRITTEN AND READ: as it was. -/
theorem parse_text (e : E) (hr : e.right = true) (hc : e.cnt ≤ 1000) : parse (e.text false) = (e, 0) := by
  have hok : e.ok = true := by simp [E.right] at hr; exact hr.2
  have h24 : e.cnt ≤ 24 := by
    simp [E.right] at hr
    have := many_cnt e (by omega)
    omega
  have IT : ∀ y : E, y.cnt ≤ 24 → y.ok = true → Reads (itemN tl 49) (y.txl true) y y.cnt Cend := fun y hy hyo => item_reads 24 y hy hyo 49 (by omega)
  have SQ : ∀ y : E, y.cnt ≤ 24 → y.ok = true → y.op ≠ 97 → Reads (seqR 49) (y.txl false) y y.cnt Cseq := fun y hy hyo hna =>
    seq_reads 49 y hyo hna (fun _ => IT y hy hyo) (fun h115 z hz => IT z (by have := cnt_kid hz; omega) (E.ok_kids hyo (by omega) z hz).1) y.cnt (fun _ => by omega) (fun _ => Nat.le_refl _)
  have AL := alt_reads 49 e hok e.cnt (fun h => SQ e h24 hok h) (fun h97 z hz => by
    have hz' := E.ok_kids hok (by omega) z hz
    exact SQ z (by have := cnt_kid hz; omega) hz'.1 (by rw [← h97]; exact hz'.2)) (fun _ => by omega)
  obtain ⟨m', _, _, h⟩ := AL [] 0 ⟨⟨fun c hc => by simp at hc, by simp⟩, by simp⟩ (by omega) (by omega)
  have hread : read (e.text false) = (e, ⟨B [], false, m'⟩) := by
    have : e.text false = B (e.txl false ++ []) := by rw [List.append_nil, B_data]
    rw [this]
    exact h
  unfold parse
  rw [hread]
  simp [hr]
end Go.Proofs.D
