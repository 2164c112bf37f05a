/-
  AN EXPRESSION THAT IS WRITTEN IS READ AS IT WAS: by the second reader.
-/
import Derived.Test.YtonomogpephfkaaDoorD37
import Derived.Test.YtonomogpephfkaaDoorL6
set_option linter.unusedVariables false
set_option linter.unusedSimpArgs false
namespace Go.Proofs.D
open Go Go.Abs
/-- Over a text, at a depth that is not below a bound, nothing is cut. -/
def PassAt (lo sg : Int) (t : List UInt8) : Prop := ∀ (o : Int) (cur r : List UInt8), lo ≤ o → cutGo sg (t ++ r) o cur = cutGo sg r o (cur ++ t)
theorem PassAt.mono {lo hi sg : Int} {t : List UInt8} (h : PassAt lo sg t) (hl : lo ≤ hi) : PassAt hi sg t := fun o cur r ho => h o cur r (by omega)
theorem pass_nil (lo sg : Int) : PassAt lo sg [] := fun o cur r _ => by simp
theorem PassAt.app {lo sg : Int} {t u : List UInt8} (h : PassAt lo sg t) (g : PassAt lo sg u) : PassAt lo sg (t ++ u) := fun o cur r ho => by
  rw [List.append_assoc, h o cur _ ho, g o _ r ho, List.append_assoc]
theorem opn_plain {c : UInt8} (h1 : c ≠ 40) (h2 : c ≠ 41) (o : Int) : opn c.toNat o = o := by
  have e1 : ¬ (c.toNat : Int) = 40 := fun h => h1 (UInt8.toNat_inj.1 (by show c.toNat = 40; omega))
  have e2 : ¬ (c.toNat : Int) = 41 := fun h => h2 (UInt8.toNat_inj.1 (by show c.toNat = 41; omega))
  simp [opn, e1, e2]
theorem pass_one {lo sg : Int} {c : UInt8} (h1 : c ≠ 40) (h2 : c ≠ 41) (h3 : (c.toNat : Int) ≠ sg) : PassAt lo sg [c] := fun o cur r ho => by
  simp only [List.cons_append, List.nil_append, cutGo, opn_plain h1 h2]
  rw [if_neg fun h => h3 h.1]
theorem pass_deep {sg : Int} {c : UInt8} (h1 : c ≠ 40) (h2 : c ≠ 41) : PassAt 1 sg [c] := fun o cur r ho => by
  simp only [List.cons_append, List.nil_append, cutGo, opn_plain h1 h2]
  rw [if_neg fun h => by have := h.2; omega]
theorem pass_par {sg : Int} {t : List UInt8} (h : PassAt 1 sg t) (h1 : sg ≠ 40) (h2 : sg ≠ 41) : PassAt 0 sg (40 :: (t ++ [41])) := fun o cur r ho => by
  have e1 : ((40 : UInt8).toNat : Int) = 40 := rfl
  have e2 : ((41 : UInt8).toNat : Int) = 41 := rfl
  simp only [List.cons_append, cutGo, e1]
  rw [if_neg fun h => h1 h.1.symm]
  have e3 : opn 40 o = o + 1 := by simp [opn]
  rw [e3, List.append_assoc, h (o + 1) _ _ (by omega)]
  simp only [List.cons_append, List.nil_append, cutGo, e2]
  rw [if_neg fun h => h2 h.1.symm]
  have e4 : opn 41 (o + 1) = o := by simp [opn]
  rw [e4]
  simp
theorem pass_tail {lo sg : Int} {c : UInt8} (hc : PassAt lo sg [c]) (f : E → List UInt8) : ∀ xs : List E, (∀ y ∈ xs, PassAt lo sg (f y)) → PassAt lo sg (tailT c f xs)
  | [], _ => pass_nil _ _
  | y :: xs, h => by
    have e : tailT c f (y :: xs) = [c] ++ (f y ++ tailT c f xs) := by simp [tailT]
    rw [e]
    exact hc.app ((h y (by simp)).app (pass_tail hc f xs fun z hz => h z (by simp [hz])))
theorem pass_low {lo sg : Int} (h1 : sg = 124 ∨ sg = 32) : ∀ l : List UInt8, (∀ c ∈ l, isLow c = true) → PassAt lo sg l
  | [], _ => pass_nil _ _
  | c :: l, h => by
    have hc := h c (by simp)
    simp [isLow] at hc
    refine PassAt.app (t := [c]) (pass_one (fun e => ?_) (fun e => ?_) (by omega)) (pass_low h1 l fun d hd => h d (by simp [hd]))
    · subst e; revert hc; decide
    · subst e; revert hc; decide
theorem cut_rows {sg : Int} {c : UInt8} (h1 : c ≠ 40) (h2 : c ≠ 41) (h3 : (c.toNat : Int) = sg) (f : E → List UInt8) : ∀ (xs : List E) (x : E) (cur : List UInt8), (∀ y ∈ x :: xs, PassAt 0 sg (f y)) → cutGo sg (f x ++ tailT c f xs) 0 cur = (cur ++ f x) :: xs.map f
  | [], x, cur, h => by
    have := h x (by simp) 0 cur [] (Int.le_refl _)
    simp only [tailT, List.map_nil, List.flatten_nil]
    rw [this]
    rfl
  | y :: xs, x, cur, h => by
    have e : tailT c f (y :: xs) = c :: (f y ++ tailT c f xs) := by simp [tailT]
    rw [e, h x (by simp) 0 cur _ (Int.le_refl _)]
    simp only [cutGo, opn_plain h1 h2]
    rw [if_pos ⟨h3, trivial⟩, cut_rows h1 h2 h3 f xs y [] fun z hz => h z (by simp at hz ⊢; exact .inr hz)]
    simp
theorem cut_none {sg : Int} {t : List UInt8} (h : PassAt 0 sg t) : cutL sg t = [t] := by
  have := h 0 [] [] (Int.le_refl _)
  rw [List.append_nil] at this
  show cutGo sg t 0 [] = [t]
  rw [this]
  rfl
/-- How a text is made, by the expression. -/
inductive Shape (e : E) : Prop where
  | name (h : e.op = 110) (hl : ∀ c ∈ e.name.data.toList, isLow c = true) (hn : e.name.data.toList ≠ []) (hk : e.kids = []) (ht : ∀ b, e.txl b = e.name.data.toList)
  | unit (h : e.op = 115) (hn : e.name = ⟨#[]⟩) (hk : e.kids = []) (ht : ∀ b, e.txl b = [40, 41])
  | seq (h : e.op = 115) (hn : e.name = ⟨#[]⟩) (x y : E) (xs : List E) (hk : e.kids = x :: y :: xs) (hf : e.txl false = x.txl true ++ tailT 32 (E.txl true) (y :: xs)) (ht : e.txl true = 40 :: (e.txl false ++ [41]))
  | alt (h : e.op = 97) (hn : e.name = ⟨#[]⟩) (x y : E) (xs : List E) (hk : e.kids = x :: y :: xs) (hf : e.txl false = x.txl false ++ tailT 124 (E.txl false) (y :: xs)) (ht : e.txl true = 40 :: (e.txl false ++ [41]))
  | sfx (c : UInt8) (h : (c.toNat : Int) = e.op) (ho : e.op = 42 ∨ e.op = 43 ∨ e.op = 63) (hn : e.name = ⟨#[]⟩) (k : E) (hk : e.kids = [k]) (ht : ∀ b, e.txl b = k.txl true ++ [c])
theorem shape {e : E} (h : e.ok = true) : Shape e := by
  rcases E.ok_ops h with ⟨h1, hk⟩ | ⟨h1, hn, h2⟩ | ⟨h1, hn, h2⟩ | ⟨h1, hn, k, h2, _⟩
  · obtain ⟨a, b'⟩ := name_low h h1
    exact .name h1 a b' hk fun b => by unfold E.txl; rw [text_eq, if_pos h1]
  · cases hk : e.kids with
    | nil => exact .unit h1 hn hk fun b => by unfold E.txl; rw [text_eq, if_neg (by omega), if_pos h1, if_pos (by rw [hk]; rfl)]
    | cons x l =>
      cases l with
      | nil => rw [hk] at h2; simp at h2
      | cons y xs =>
        have ht : ∀ b, e.text b = par b (joinB ((x :: y :: xs).map fun k => k.text true) ⟨#[32]⟩) := fun b => by
          have : (!decide (e.op = 97)) = true := by simp; omega
          rw [text_eq, if_neg (by omega), if_pos h1, if_neg (by rw [hk]; simp), hk, this]
        have hf : e.txl false = x.txl true ++ tailT 32 (E.txl true) (y :: xs) := by
          unfold E.txl
          rw [ht, par_list, if_neg (by simp)]
          exact join_list (fun k => k.text true) 32 x (y :: xs)
        refine .seq h1 hn x y xs hk hf ?_
        unfold E.txl
        rw [ht, ht, par_list, par_list]
        simp
  · cases hk : e.kids with
    | nil => rw [hk] at h2; simp at h2
    | cons x l =>
      cases l with
      | nil => rw [hk] at h2; simp at h2
      | cons y xs =>
        have ht : ∀ b, e.text b = par b (joinB ((x :: y :: xs).map fun k => k.text false) ⟨#[124]⟩) := fun b => by
          have : (!decide (e.op = 97)) = false := by simp [h1]
          rw [text_eq, if_neg (by omega), if_neg (by omega), if_pos h1, hk, this]
        have hf : e.txl false = x.txl false ++ tailT 124 (E.txl false) (y :: xs) := by
          unfold E.txl
          rw [ht, par_list, if_neg (by simp)]
          exact join_list (fun k => k.text false) 124 x (y :: xs)
        refine .alt h1 hn x y xs hk hf ?_
        unfold E.txl
        rw [ht, ht, par_list, par_list]
        simp
  · obtain ⟨c, q1, q2, q3⟩ := enc_op (o := e.op) h1
    refine .sfx c ?_ h1 hn k h2 fun b => ?_
    · rcases q2 with ⟨a, rfl⟩ | ⟨a, rfl⟩ | ⟨a, rfl⟩ <;> rw [a] <;> rfl
    · unfold E.txl
      rw [text_eq, if_neg (by omega), if_neg (by omega), if_neg (by omega), app_list, h2, q1, B_list]
      have e1 : joinB ([k].map fun z => z.text (!decide (e.op = 97))) ⟨#[]⟩ = k.text (!decide (e.op = 97)) := ext_list (by simp [joinB, Lib.join_one])
      have e2 : (!decide (e.op = 97)) = true := by simp; omega
      rw [e1, e2]
theorem txl_pass (e : E) (h : e.ok = true) (sg : Int) (hs : sg = 124 ∨ sg = 32) : (∀ b, PassAt 1 sg (e.txl b)) ∧ PassAt 0 sg (e.txl true) ∧ (¬ (e.op = 97 ∨ (sg = 32 ∧ e.op = 115 ∧ e.kids ≠ [])) → PassAt 0 sg (e.txl false)) := by
  have hkid : ∀ k ∈ e.kids, ¬ e.op = 110 → k.op ≠ e.op ∧ (∀ b, PassAt 1 sg (k.txl b)) ∧ PassAt 0 sg (k.txl true) ∧ (¬ (k.op = 97 ∨ (sg = 32 ∧ k.op = 115 ∧ k.kids ≠ [])) → PassAt 0 sg (k.txl false)) := fun k hk h1 =>
    ⟨(E.ok_kids h h1 k hk).2, txl_pass k (E.ok_kids h h1 k hk).1 sg hs⟩
  have h40 : sg ≠ 40 := by omega
  have h41 : sg ≠ 41 := by omega
  have both : (∀ b, PassAt 0 sg (e.txl b)) → (∀ b, PassAt 1 sg (e.txl b)) ∧ PassAt 0 sg (e.txl true) ∧ (¬ (e.op = 97 ∨ (sg = 32 ∧ e.op = 115 ∧ e.kids ≠ [])) → PassAt 0 sg (e.txl false)) := fun hb =>
    ⟨fun b => (hb b).mono (by omega), hb true, fun _ => hb false⟩
  have brk : PassAt 1 sg (e.txl false) → e.txl true = 40 :: (e.txl false ++ [41]) → (¬ (e.op = 97 ∨ (sg = 32 ∧ e.op = 115 ∧ e.kids ≠ [])) → PassAt 0 sg (e.txl false)) → (∀ b, PassAt 1 sg (e.txl b)) ∧ PassAt 0 sg (e.txl true) ∧ (¬ (e.op = 97 ∨ (sg = 32 ∧ e.op = 115 ∧ e.kids ≠ [])) → PassAt 0 sg (e.txl false)) := fun h1 ht h0 => by
    have hp := pass_par h1 h40 h41
    rw [← ht] at hp
    refine ⟨fun b => ?_, hp, h0⟩
    cases b
    · exact h1
    · exact hp.mono (by omega)
  cases shape h with
  | name h1 hl hn hk ht => exact both fun b => by rw [ht]; exact pass_low hs _ hl
  | unit h1 hn hk ht =>
    refine both fun b => ?_
    rw [ht]
    exact pass_par (t := []) (pass_nil _ _) h40 h41
  | sfx c hc ho hn k hk ht =>
    have hkk := hkid k (by rw [hk]; simp) (by omega)
    refine both fun b => ?_
    rw [ht]
    refine hkk.2.2.1.app (pass_one (fun e => ?_) (fun e => ?_) (by omega))
    · subst e; have : ((40 : UInt8).toNat : Int) = 40 := rfl; omega
    · subst e; have : ((41 : UInt8).toNat : Int) = 41 := rfl; omega
  | seq h1 hn x y xs hk hf ht =>
    have hkk := fun z hz => hkid z hz (by omega)
    have hx := fun z (hz : z ∈ x :: y :: xs) => hkk z (by rw [hk]; exact hz)
    refine brk ?_ ht fun hno => ?_
    · rw [hf]
      exact ((hx x (by simp)).2.1 true).app (pass_tail (pass_deep (by decide) (by decide)) _ _ fun z hz => (hx z (List.mem_cons_of_mem _ hz)).2.1 true)
    · rw [hf]
      have h124 : sg = 124 := by
        rcases hs with h | h
        · exact h
        · exact absurd (.inr ⟨h, h1, by rw [hk]; simp⟩) hno
      subst h124
      exact (hx x (by simp)).2.2.1.app (pass_tail (pass_one (by decide) (by decide) (by decide)) _ _ fun z hz => (hx z (List.mem_cons_of_mem _ hz)).2.2.1)
  | alt h1 hn x y xs hk hf ht =>
    have hkk := fun z hz => hkid z hz (by omega)
    have hx := fun z (hz : z ∈ x :: y :: xs) => hkk z (by rw [hk]; exact hz)
    refine brk ?_ ht fun hno => absurd (.inl h1) hno
    rw [hf]
    exact ((hx x (by simp)).2.1 false).app (pass_tail (pass_deep (by decide) (by decide)) _ _ fun z hz => (hx z (List.mem_cons_of_mem _ hz)).2.1 false)
termination_by SizeOf.sizeOf e
decreasing_by exact E.kids_lt hk
end Go.Proofs.D
