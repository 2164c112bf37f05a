/-
  AN EXPRESSION THAT IS WRITTEN IS READ AS IT WAS, by both readers: so both answer alike.
-/
import Derived.Test.YtonomogpephfkaaDoorD38
import Derived.Test.YtonomogpephfkaaDoorL10
set_option linter.unusedVariables false
set_option linter.unusedSimpArgs false
namespace Go.Proofs.D
open Go Go.Abs
theorem lastI_snoc (l : List UInt8) (c : UInt8) : lastI (l ++ [c]) = (c.toNat : Int) := by simp [lastI]
theorem mk_eta (e : E) : e = .mk e.op e.name e.kids := by obtain ⟨o, n, k⟩ := e; rfl
theorem rdE_plain (n : Nat) (t : List UInt8) (h : t ≠ []) (h1 : PassAt 0 124 t) (h2 : PassAt 0 32 t) : rdE (n + 1) t = rdR n t := by
  rw [rdE, if_neg h, cut_none h1, cut_none h2, if_neg (by simp), if_neg (by simp)]
  rfl
theorem low_last {l : List UInt8} (h : ∀ c ∈ l, isLow c = true) (hn : l ≠ []) : 97 ≤ lastI l := by
  have hm := h _ (List.getLast_mem hn)
  simp only [lastI, List.getLast?_eq_some_getLast hn, Option.getD_some]
  simp [isLow] at hm
  omega
theorem map_id (l : List E) (f : List UInt8 → E) (g : E → List UInt8) (h : ∀ y ∈ l, f (g y) = y) : (l.map g).map f = l := by
  rw [List.map_map]
  induction l with
  | nil => rfl
  | cons x l ih =>
    rw [List.map_cons, ih fun y hy => h y (by simp [hy])]
    rw [Function.comp_apply, h x (by simp)]
theorem rd_text : ∀ (m : Nat) (e : E), e.cnt ≤ m → e.ok = true → e.cnt ≤ 29 → (∀ n, 2 * e.cnt ≤ n + 1 → rdE n (e.txl false) = e) ∧ (∀ n, 2 * e.cnt ≤ n → rdE n (e.txl true) = e)
  | 0, e, hm, _, _ => by have := cnt_eq e; omega
  | m + 1, e, hm, hok, h29 => by
    have hc := cnt_eq e
    have IH : ∀ k ∈ e.kids, ¬ e.op = 110 → k.op ≠ e.op ∧ k.ok = true ∧ k.cnt < e.cnt ∧ (∀ n, 2 * k.cnt ≤ n + 1 → rdE n (k.txl false) = k) ∧ (∀ n, 2 * k.cnt ≤ n → rdE n (k.txl true) = k) := fun k hk h1 => by
      have hlt := cnt_kid hk
      have ho := E.ok_kids hok h1 k hk
      exact ⟨ho.2, ho.1, hlt, rd_text m k (by omega) ho.1 (by omega)⟩
    have hp124 := txl_pass e hok 124 (.inl rfl)
    have hp32 := txl_pass e hok 32 (.inr rfl)
    have hkl := kids_le e
    have hkl2 : e.kids.length + 1 ≤ e.cnt := by
      have : ∀ l : List E, l.length ≤ (l.map E.cnt).sum := fun l => by
        induction l with
        | nil => simp
        | cons x l ih => have : 1 ≤ x.cnt := (by rw [cnt_eq]; omega); simp; omega
      have := this e.kids
      omega
    -- in brackets
    have brk : ∀ t, e.txl true = 40 :: (t ++ [41]) → t = e.txl false → t ≠ [] → (∀ n, 2 * e.cnt ≤ n + 1 → rdE n (e.txl false) = e) → ∀ n, 2 * e.cnt ≤ n → rdE n (e.txl true) = e := fun t ht htt hne hf n hn => by
      obtain ⟨n, rfl⟩ : ∃ j, n = j + 1 := ⟨n - 1, by omega⟩
      rw [rdE_plain n _ (by rw [ht]; simp) hp124.2.1 hp32.2.1, ht]
      have hl : lastI (40 :: (t ++ [41])) = 41 := lastI_snoc (40 :: t) 41
      have hh : headI (40 :: (t ++ [41])) = 40 := rfl
      unfold rdR
      rw [hl, hh, if_neg (by omega), if_neg (by intro h; cases t with | nil => exact hne rfl | cons a t => simp at h), if_pos ⟨rfl, rfl⟩]
      have : (40 :: (t ++ [41])).tail.dropLast = t := by simp
      rw [this, htt]
      exact hf n (by omega)
    have hne : ∀ b, e.txl b ≠ [] := fun b h => by
      obtain ⟨c, l, h', _⟩ := head_ok e hok b
      rw [h] at h'
      cases h'
    cases shape hok with
    | name h1 hl hn hk ht =>
      have key : ∀ n, 2 * e.cnt ≤ n + 1 → ∀ b, rdE n (e.txl b) = e := fun n hn' b => by
        obtain ⟨n, rfl⟩ : ∃ j, n = j + 1 := ⟨n - 1, by omega⟩
        rw [rdE_plain n _ (hne b) (by rw [ht b, ← ht true]; exact hp124.2.1) (by rw [ht b, ← ht true]; exact hp32.2.1), ht b]
        have := low_last hl hn
        have hnu : ¬ e.name.data.toList = [40, 41] := fun h => by have := hl 40 (by rw [h]; simp); revert this; decide
        unfold rdR
        rw [if_neg (by omega), if_neg hnu, if_neg (by omega), B_data]
        conv => rhs; rw [mk_eta e, h1, hk]
      exact ⟨fun n hn' => key n hn' false, fun n hn' => key n (by omega) true⟩
    | unit h1 hn hk ht =>
      have key : ∀ n, 2 * e.cnt ≤ n + 1 → ∀ b, rdE n (e.txl b) = e := fun n hn' b => by
        obtain ⟨n, rfl⟩ : ∃ j, n = j + 1 := ⟨n - 1, by omega⟩
        rw [rdE_plain n _ (hne b) (by rw [ht b, ← ht true]; exact hp124.2.1) (by rw [ht b, ← ht true]; exact hp32.2.1), ht b]
        have hl : lastI [40, 41] = 41 := rfl
        unfold rdR
        rw [hl, if_neg (by omega), if_pos rfl]
        conv => rhs; rw [mk_eta e, h1, hn, hk]
      exact ⟨fun n hn' => key n hn' false, fun n hn' => key n (by omega) true⟩
    | sfx c hcc ho hn k hk ht =>
      have hkk := IH k (by rw [hk]; simp) (by omega)
      have key : ∀ n, 2 * e.cnt ≤ n + 1 → ∀ b, rdE n (e.txl b) = e := fun n hn' b => by
        obtain ⟨n, rfl⟩ : ∃ j, n = j + 1 := ⟨n - 1, by omega⟩
        rw [rdE_plain n _ (hne b) (by rw [ht b, ← ht true]; exact hp124.2.1) (by rw [ht b, ← ht true]; exact hp32.2.1), ht b]
        unfold rdR
        rw [lastI_snoc, if_pos (by omega), List.dropLast_concat, hkk.2.2.2.2 n (by omega), hcc]
        conv => rhs; rw [mk_eta e, hn, hk]
      exact ⟨fun n hn' => key n hn' false, fun n hn' => key n (by omega) true⟩
    | seq h1 hn x y xs hk hf ht =>
      have hkk := fun z hz => IH z hz (by omega)
      have hx := fun z (hz : z ∈ x :: y :: xs) => hkk z (by rw [hk]; exact hz)
      have key : ∀ n, 2 * e.cnt ≤ n + 1 → rdE n (e.txl false) = e := fun n hn' => by
        obtain ⟨n, rfl⟩ : ∃ j, n = j + 1 := ⟨n - 1, by omega⟩
        have c1 := cut_none (hp124.2.2 (by simp; omega))
        have c2 : cutL 32 (e.txl false) = (x :: y :: xs).map (E.txl true) := by
          rw [hf]
          exact cut_rows (c := 32) (by decide) (by decide) rfl (E.txl true) (y :: xs) x [] fun z hz => (txl_pass z (hx z hz).2.1 32 (.inr rfl)).2.1
        rw [rdE, if_neg (hne false), c1, if_neg (by simp), c2, if_pos (by simp), if_pos (by rw [List.length_map, ← hk]; omega),
          map_id _ _ _ fun z hz => (hx z hz).2.2.2.2 n (by have := (hx z hz).2.2.1; omega), ← hk]
        conv => rhs; rw [mk_eta e, h1, hn]
      exact ⟨key, brk _ ht rfl (hne false) key⟩
    | alt h1 hn x y xs hk hf ht =>
      have hkk := fun z hz => IH z hz (by omega)
      have hx := fun z (hz : z ∈ x :: y :: xs) => hkk z (by rw [hk]; exact hz)
      have key : ∀ n, 2 * e.cnt ≤ n + 1 → rdE n (e.txl false) = e := fun n hn' => by
        obtain ⟨n, rfl⟩ : ∃ j, n = j + 1 := ⟨n - 1, by omega⟩
        have c2 : cutL 124 (e.txl false) = (x :: y :: xs).map (E.txl false) := by
          rw [hf]
          exact cut_rows (c := 124) (by decide) (by decide) rfl (E.txl false) (y :: xs) x [] fun z hz => (txl_pass z (hx z hz).2.1 124 (.inl rfl)).2.2 (by have := (hx z hz).1; simp; omega)
        rw [rdE, if_neg (hne false), c2, if_pos (by simp), if_pos (by rw [List.length_map, ← hk]; omega),
          map_id _ _ _ fun z hz => (hx z hz).2.2.2.1 n (by have := (hx z hz).2.2.1; omega), ← hk]
        conv => rhs; rw [mk_eta e, h1, hn]
      exact ⟨key, brk _ ht rfl (hne false) key⟩
end Go.Proofs.D
