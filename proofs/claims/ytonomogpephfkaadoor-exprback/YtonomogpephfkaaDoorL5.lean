/-
  AN EXPRESSION THAT IS WRITTEN IS READ AS IT WAS: by the expression.
-/
import Derived.Test.YtonomogpephfkaaDoorL4
set_option linter.unusedVariables false
set_option linter.unusedSimpArgs false
namespace Go.Proofs.D
open Go Go.Abs
abbrev E.txl (b : Bool) (e : E) : List UInt8 := (e.text b).data.toList
theorem par_list (b : Bool) (s : ByteArray) : (par b s).data.toList = if b = true then 40 :: (s.data.toList ++ [41]) else s.data.toList := by
  unfold par
  split
  · rw [app_list, app_list]; rfl
  · rfl
theorem join_list (txt : E → ByteArray) (sign : UInt8) (x : E) (xs : List E) : (joinB ((x :: xs).map txt) (B [sign])).data.toList = (txt x).data.toList ++ tailT sign (fun y => (txt y).data.toList) xs := by
  unfold joinB
  simp only [List.map_cons, Lib.join_cons, List.toList_toArray, List.map_map]
  congr 1
  simp only [Lib.joinTail, tailT, List.map_map]
  rfl
/-- What may stand behind an item. -/
def Cend (r : List UInt8) : Prop := ∀ c, r.head? = some c → isLow c = false ∧ c ≠ 42 ∧ c ≠ 43 ∧ c ≠ 63
theorem Cend_cons {c : UInt8} (h1 : isLow c = false) (h2 : c ≠ 42) (h3 : c ≠ 43) (h4 : c ≠ 63) (r : List UInt8) : Cend (c :: r) := by
  intro d hd
  simp at hd
  subst hd
  exact ⟨h1, h2, h3, h4⟩
abbrev seqR (k : Nat) : St → E × St := several (itemN tl k) 115 ⟨#[32]⟩
abbrev altR (k : Nat) : St → E × St := several (seqR k) 97 ⟨#[124]⟩
abbrev Cseq (r : List UInt8) : Prop := Cend r ∧ r.head? ≠ some 32
abbrev Calt (r : List UInt8) : Prop := Cseq r ∧ r.head? ≠ some 124
theorem kids_sum (e : E) : (e.kids.map E.cnt).sum + 1 = e.cnt := by rw [cnt_eq]; omega
/-- A sequence, or what stands for itself, as seq reads it. -/
theorem seq_reads (k : Nat) (e : E) (hok : e.ok = true) (hna : e.op ≠ 97) (hself : e.op ≠ 115 ∨ e.kids = [] → Reads (itemN tl k) (e.txl true) e e.cnt Cend) (hkids : e.op = 115 → ∀ y ∈ e.kids, Reads (itemN tl k) (y.txl true) y y.cnt Cend) (w : Nat) (hw1 : e.op = 115 ∧ e.kids ≠ [] → e.cnt - 1 ≤ w) (hw2 : ¬ (e.op = 115 ∧ e.kids ≠ []) → e.cnt ≤ w) : Reads (seqR k) (e.txl false) e w Cseq := by
  by_cases h : e.op = 115 ∧ e.kids ≠ []
  · have hw := hw1 h
    obtain ⟨h1, h2⟩ := h
    rcases E.ok_ops hok with ⟨h, _⟩ | ⟨_, hn, hl⟩ | ⟨h, _⟩ | ⟨h, _⟩
    · omega
    · match hkk : e.kids, h2, hl with
      | [_], _, hl => simp at hl
      | x :: y :: l, _, _ =>
        have hs := several_reads (sign := 32) (C := Cend) (Cend_cons (by decide) (by decide) (by decide) (by decide)) (E.txl true) E.cnt 115 x (y :: l) (fun z hz => hkids h1 z (by rw [hkk]; exact hz))
        have htxt : e.txl false = x.txl true ++ tailT 32 (E.txl true) (y :: l) := by
          unfold E.txl
          rw [text_eq, if_neg (by omega), if_pos h1, if_neg (by rw [hkk]; simp), par_list, if_neg (by simp), hkk]
          have : (!decide (e.op = 97)) = true := by simp [h1]
          rw [this]
          exact join_list (fun z => z.text true) 32 x (y :: l)
        have he : e = .mk 115 ⟨#[]⟩ (x :: y :: l) := by
          obtain ⟨o, n, ks⟩ := e
          simp only [E.op, E.name, E.kids] at h1 hn hkk
          rw [h1, hn, hkk]
        rw [htxt]
        have hc := kids_sum e
        rw [hkk] at hc
        conv => arg 3; rw [he]
        exact hs.mono (by omega) (fun r hr => hr)
    · omega
    · omega
  · have hw := hw2 h
    have h' : e.op ≠ 115 ∨ e.kids = [] := by
      by_cases h1 : e.op = 115
      · right
        exact Classical.byContradiction fun h2 => h ⟨h1, h2⟩
      · exact .inl h1
    have hs := several_reads (sign := 32) (C := Cend) (Cend_cons (by decide) (by decide) (by decide) (by decide)) (E.txl true) E.cnt 115 e [] (fun z hz => by simp at hz; subst hz; exact hself h')
    have htxt : e.txl false = e.txl true ++ tailT 32 (E.txl true) [] := by
      simp only [tailT, List.map_nil, List.flatten_nil, List.append_nil]
      unfold E.txl
      rw [text_eq e false, text_eq e true]
      by_cases h1 : e.op = 110
      · simp [h1]
      · by_cases h2 : e.op = 115
        · have : e.kids = [] := by rcases h' with h | h; exact absurd h2 h; exact h
          simp [h2, this]
        · simp [h1, h2, hna]
    rw [htxt]
    exact hs.mono (by simpa using hw) (fun r hr => hr)
/-- Whatever it is, as alt reads it. -/
theorem alt_reads (k : Nat) (e : E) (hok : e.ok = true) (w : Nat) (hself : e.op ≠ 97 → Reads (seqR k) (e.txl false) e w Cseq) (hkids : e.op = 97 → ∀ y ∈ e.kids, Reads (seqR k) (y.txl false) y y.cnt Cseq) (hw1 : e.op = 97 → e.cnt - 1 ≤ w) : Reads (altR k) (e.txl false) e w Calt := by
  have hC : ∀ r, Cseq (124 :: r) := fun r => ⟨Cend_cons (by decide) (by decide) (by decide) (by decide) r, by simp⟩
  by_cases h1 : e.op = 97
  · have hw := hw1 h1
    rcases E.ok_ops hok with ⟨h, _⟩ | ⟨h, _⟩ | ⟨_, hn, hl⟩ | ⟨h, _⟩
    · omega
    · omega
    · match hkk : e.kids, hl with
      | x :: y :: l, _ =>
        have hs := several_reads (sign := 124) (C := Cseq) hC (E.txl false) E.cnt 97 x (y :: l) (fun z hz => hkids h1 z (by rw [hkk]; exact hz))
        have htxt : e.txl false = x.txl false ++ tailT 124 (E.txl false) (y :: l) := by
          unfold E.txl
          rw [text_eq, if_neg (by omega), if_neg (by omega), if_pos h1, par_list, if_neg (by simp), hkk]
          have : (!decide (e.op = 97)) = false := by simp [h1]
          rw [this]
          exact join_list (fun z => z.text false) 124 x (y :: l)
        have he : e = .mk 97 ⟨#[]⟩ (x :: y :: l) := by
          obtain ⟨o, n, ks⟩ := e
          simp only [E.op, E.name, E.kids] at h1 hn hkk
          rw [h1, hn, hkk]
        rw [htxt]
        have hc := kids_sum e
        rw [hkk] at hc
        conv => arg 3; rw [he]
        exact hs.mono (by omega) (fun r hr => hr)
    · omega
  · have hs := several_reads (sign := 124) (C := Cseq) hC (E.txl false) (fun _ => w) 97 e [] (fun z hz => by simp at hz; subst hz; exact hself h1)
    have htxt : e.txl false = e.txl false ++ tailT 124 (E.txl false) [] := by simp [tailT]
    rw [htxt]
    exact hs.mono (by simp) (fun r hr => hr)
end Go.Proofs.D
