/-
  AN EXPRESSION THAT IS WRITTEN IS READ AS IT WAS: items; the whole.
-/
import Derived.Test.YtciibpfhjfegnaaGreatDoorL5
set_option linter.unusedVariables false
set_option linter.unusedSimpArgs false
namespace Go.Proofs.D
open Go Go.Abs
theorem text_low : ∀ c ∈ (⟨#[116, 101, 120, 116]⟩ : ByteArray).data.toList, isLow c = true := by decide
theorem name_low6 {e : E} (h : e.ok = true) (h1 : e.op = 110) : (∀ c ∈ e.name.data.toList, isLow c = true) ∧ e.name.data.toList ≠ [] := by
  rw [E.ok_eq] at h
  simp [h1] at h
  rcases h.2 with h | h
  · simp only [isName, Bool.and_eq_true, decide_eq_true_eq, List.all_eq_true] at h
    obtain ⟨⟨⟨h2, h3⟩, h4⟩, _⟩ := h
    refine ⟨fun c hc => by have := h4 c hc; simp [isLow, this], fun hn => ?_⟩
    have : e.name.data.toList.length = e.name.size := Array.length_toList
    rw [hn] at this
    simp at this
    omega
  · rw [h]
    exact ⟨text_low, by decide⟩
theorem head_ok (e : E) (h : e.ok = true) (b : Bool) : ∃ c l, e.txl b = c :: l ∧ c ≠ 41 ∧ (isLow c = true ∨ c = 40) := by
  have hkid : ∀ k ∈ e.kids, ¬ e.op = 110 → ∀ b, ∃ c l, k.txl b = c :: l ∧ c ≠ 41 ∧ (isLow c = true ∨ c = 40) := fun k hk h1 b => head_ok k (E.ok_kids h h1 k hk).1 b
  rcases E.ok_ops h with ⟨h1, _⟩ | ⟨h1, _, h2⟩ | ⟨h1, _, h2⟩ | ⟨h1, _, k, h2, _⟩
  · obtain ⟨a, b'⟩ := name_low6 h h1
    unfold E.txl
    rw [text_eq, if_pos h1]
    cases hl : e.name.data.toList with
    | nil => exact absurd hl b'
    | cons c l =>
      rw [hl] at a
      have := a c (by simp)
      refine ⟨c, l, rfl, fun hc => ?_, .inl this⟩
      subst hc
      cases this
  · unfold E.txl
    rw [text_eq, if_neg (by omega), if_pos h1]
    split
    · exact ⟨40, [41], rfl, by decide, .inr rfl⟩
    · rw [par_list]
      split
      · exact ⟨40, _, rfl, by decide, .inr rfl⟩
      · cases hkk : e.kids with
        | nil => rename_i h0 _; rw [hkk] at h0; simp at h0
        | cons x xs =>
          obtain ⟨c, l, q1, q2, q3⟩ := hkid x (by rw [hkk]; simp) (by omega) (!decide (e.op = 97))
          have := join_list (fun z => z.text (!decide (e.op = 97))) 32 x xs
          rw [this]
          exact ⟨c, _, by rw [show (x.text (!decide (e.op = 97))).data.toList = c :: l from q1]; rfl, q2, q3⟩
  · unfold E.txl
    rw [text_eq, if_neg (by omega), if_neg (by omega), if_pos h1, par_list]
    split
    · exact ⟨40, _, rfl, by decide, .inr rfl⟩
    · cases hkk : e.kids with
      | nil => rw [hkk] at h2; simp at h2
      | cons x xs =>
        obtain ⟨c, l, q1, q2, q3⟩ := hkid x (by rw [hkk]; simp) (by omega) (!decide (e.op = 97))
        have := join_list (fun z => z.text (!decide (e.op = 97))) 124 x xs
        rw [this]
        exact ⟨c, _, by rw [show (x.text (!decide (e.op = 97))).data.toList = c :: l from q1]; rfl, q2, q3⟩
  · unfold E.txl
    rw [text_eq, if_neg (by omega), if_neg (by omega), if_neg (by omega), app_list, h2]
    obtain ⟨c, l, q1, q2, q3⟩ := hkid k (by rw [h2]; simp) (by omega) (!decide (e.op = 97))
    have e1 : joinB ([k].map fun z => z.text (!decide (e.op = 97))) ⟨#[]⟩ = k.text (!decide (e.op = 97)) := ext_list (by simp [joinB, Lib.join_one])
    rw [e1]
    exact ⟨c, _, by rw [show (k.text (!decide (e.op = 97))).data.toList = c :: l from q1]; rfl, q2, q3⟩
termination_by SizeOf.sizeOf e
decreasing_by exact E.kids_lt hk
/-- What stands ahead of a sign behind it, as item reads it. -/
theorem base_reads (k : Nat) (e : E) (hok : e.ok = true) (hsx : e.suffix = false) (halt : e.op = 97 ∨ (e.op = 115 ∧ e.kids ≠ []) → Reads (altR k) (e.txl false) e (e.cnt - 1) Calt) (r : List UInt8) (m : Int) (hr : ∀ c, r.head? = some c → isLow c = false) (h0 : 0 ≤ m) (hm : m + (e.cnt - 1 : Nat) ≤ 48) :
    ∃ m' : Int, m ≤ m' ∧ m' ≤ m + (e.cnt - 1 : Nat) ∧ baseF tl (altR k) ⟨B (e.txl true ++ r), false, m⟩ = (e, ⟨B r, false, m'⟩) := by
  have hmk : e = .mk e.op e.name e.kids := by obtain ⟨o, n, ks⟩ := e; rfl
  have bracket : e.txl true = 40 :: (e.txl false ++ [41]) → (e.op = 97 ∨ (e.op = 115 ∧ e.kids ≠ [])) → ∃ m' : Int, m ≤ m' ∧ m' ≤ m + (e.cnt - 1 : Nat) ∧ baseF tl (altR k) ⟨B (e.txl true ++ r), false, m⟩ = (e, ⟨B r, false, m'⟩) := by
    intro ht hop
    obtain ⟨c, l, q1, q2, q3⟩ := head_ok e hok false
    obtain ⟨m', a, b, h⟩ := halt hop (41 :: r) m ⟨⟨Cend_cons (by decide) (by decide) (by decide) (by decide) r, by simp⟩, by simp⟩ h0 hm
    refine ⟨m', a, b, ?_⟩
    have e1 : e.txl true ++ r = [40] ++ (e.txl false ++ (41 :: r)) := by rw [ht]; simp
    have p1 : hasPre (B ([40] ++ (e.txl false ++ (41 :: r)))) ⟨#[40, 41]⟩ = false := by
      cases hh : hasPre (B ([40] ++ (e.txl false ++ (41 :: r)))) ⟨#[40, 41]⟩ with
      | false => rfl
      | true =>
        obtain ⟨z, hz⟩ := (hp_iff _ [40, 41]).1 hh
        rw [q1] at hz
        simp at hz
        exact absurd hz.1 q2
    have p2 := hp_yes [40] (e.txl false ++ (41 :: r))
    have p3 := hp_yes [41] r
    unfold baseF
    rw [e1]
    simp only [p1, St.cut, cp_no p1, show hasPre (B ([40] ++ (e.txl false ++ (41 :: r)))) ⟨#[40]⟩ = true from p2, show cutPre (B ([40] ++ (e.txl false ++ (41 :: r)))) ⟨#[40]⟩ = B (e.txl false ++ (41 :: r)) from cp_yes [40] _, h,
      show hasPre (B (41 :: r)) ⟨#[41]⟩ = true from p3, show cutPre (B (41 :: r)) ⟨#[41]⟩ = B r from cp_yes [41] r]
    rfl
  rcases E.ok_ops hok with ⟨h1, hk⟩ | ⟨h1, hn, h2⟩ | ⟨h1, hn, h2⟩ | ⟨h1, hn, x, h2, _⟩
  · obtain ⟨hl, hne⟩ := name_low6 hok h1
    have ht : e.txl true = e.name.data.toList := by unfold E.txl; rw [text_eq, if_pos h1]
    refine ⟨m, Int.le_refl _, by omega, ?_⟩
    rw [ht]
    have hd : (e.name.data.toList ++ r).dropWhile isLow = r := by
      have : ∀ l : List UInt8, (∀ c ∈ l, isLow c = true) → (l ++ r).dropWhile isLow = r := by
        intro l
        induction l with
        | nil =>
          intro _
          cases r with
          | nil => rfl
          | cons c r => simp [List.dropWhile, hr c rfl]
        | cons x l ih =>
          intro h
          simp [List.dropWhile, h x (by simp), ih fun c hc => h c (by simp [hc])]
      exact this _ hl
    have hh : ∀ x : UInt8, isLow x = false → (e.name.data.toList ++ r).head? ≠ some x := by
      intro x hx
      cases hnl : e.name.data.toList with
      | nil => exact absurd hnl hne
      | cons c l =>
        simp
        intro hc
        subst hc
        rw [hl c (by rw [hnl]; simp)] at hx
        cases hx
    have p1 : hasPre (B (e.name.data.toList ++ r)) ⟨#[40, 41]⟩ = false := by
      cases hq : hasPre (B (e.name.data.toList ++ r)) ⟨#[40, 41]⟩ with
      | false => rfl
      | true =>
        obtain ⟨z, hz⟩ := (hp_iff _ [40, 41]).1 hq
        exact absurd (by rw [hz]; rfl) (hh 40 (by decide))
    have p2 : hasPre (B (e.name.data.toList ++ r)) ⟨#[40]⟩ = false := hp_one_no (hh 40 (by decide))
    have htl : tl (B (e.name.data.toList ++ r)) = B r := by rw [tl_B, hd]
    have hex : (B (e.name.data.toList ++ r)).extract 0 ((B (e.name.data.toList ++ r)).size - (B r).size) = e.name := by
      refine ext_list ?_
      rw [extract_list, B_list, B_size, B_size]
      simp
    unfold baseF
    simp only [p1, St.cut, cp_no p1, p2, cp_no p2, htl, hex]
    conv => rhs; rw [hmk, h1, hk]
    rfl
  · by_cases hk : e.kids = []
    · have ht : e.txl true = [40, 41] := by unfold E.txl; rw [text_eq, if_neg (by omega), if_pos h1, if_pos (by rw [hk]; rfl)]
      refine ⟨m, Int.le_refl _, by omega, ?_⟩
      rw [ht]
      unfold baseF
      have p1 := hp_yes [40, 41] r
      simp only [show hasPre (B ([40, 41] ++ r)) ⟨#[40, 41]⟩ = true from p1, St.cut, show cutPre (B ([40, 41] ++ r)) ⟨#[40, 41]⟩ = B r from cp_yes [40, 41] r]
      conv => rhs; rw [hmk, h1, hk, hn]
      rfl
    · refine bracket ?_ (.inr ⟨h1, hk⟩)
      have ht : ∀ b, e.text b = par b (joinB (e.kids.map fun k => k.text (!decide (e.op = 97))) ⟨#[32]⟩) := fun b => by
        rw [text_eq, if_neg (by omega), if_pos h1, if_neg (by simpa using hk)]
      unfold E.txl
      rw [ht, ht, par_list, par_list]
      simp
  · refine bracket ?_ (.inl h1)
    have ht : ∀ b, e.text b = par b (joinB (e.kids.map fun k => k.text (!decide (e.op = 97))) ⟨#[124]⟩) := fun b => by
      rw [text_eq, if_neg (by omega), if_neg (by omega), if_pos h1]
    unfold E.txl
    rw [ht, ht, par_list, par_list]
    simp
  · exfalso
    simp [E.suffix] at hsx
    omega
theorem sfx_none (e : E) (r : List UInt8) (m : Int) (hr : Cend r) : sfx e [42, 43, 63] ⟨B r, false, m⟩ = (e, ⟨B r, false, m⟩) := by
  have h : ∀ c : UInt8, (c = 42 ∨ c = 43 ∨ c = 63) → hasPre (B r) (B [c]) = false := by
    intro c hc
    refine hp_one_no fun hh => ?_
    have := hr c hh
    rcases hc with rfl | rfl | rfl
    · exact this.2.1 rfl
    · exact this.2.2.1 rfl
    · exact this.2.2.2 rfl
  have h1 : hasPre (B r) ⟨#[42]⟩ = false := h 42 (by simp)
  have h2 : hasPre (B r) ⟨#[43]⟩ = false := h 43 (by simp)
  have h3 : hasPre (B r) ⟨#[63]⟩ = false := h 63 (by simp)
  simp only [sfx, enc42, enc43, enc63, h1, h2, h3, St.cut, cp_no h1, cp_no h2, cp_no h3]
  rfl
theorem sfx_one (e : E) (o : Int) (c : UInt8) (ho : (o = 42 ∧ c = 42) ∨ (o = 43 ∧ c = 43) ∨ (o = 63 ∧ c = 63)) (r : List UInt8) (m : Int) : sfx e [42, 43, 63] ⟨B (c :: r), false, m⟩ = (.mk o ⟨#[]⟩ [e], ⟨B r, false, m⟩) := by
  have hy := hp_yes [c] r
  have hc := cp_yes [c] r
  have hn : ∀ d : UInt8, d ≠ c → hasPre (B (c :: r)) (B [d]) = false := fun d hd => hp_one_no (by simp; exact fun h => hd h.symm)
  rcases ho with ⟨rfl, rfl⟩ | ⟨rfl, rfl⟩ | ⟨rfl, rfl⟩
  · have h1 : hasPre (B (42 :: r)) ⟨#[42]⟩ = true := hy
    have h2 : cutPre (B (42 :: r)) ⟨#[42]⟩ = B r := hc
    simp only [sfx, enc42, h1, St.cut, h2]
    rfl
  · have h1 : hasPre (B (43 :: r)) ⟨#[43]⟩ = true := hy
    have h2 : cutPre (B (43 :: r)) ⟨#[43]⟩ = B r := hc
    have h3 : hasPre (B (43 :: r)) ⟨#[42]⟩ = false := hn 42 (by decide)
    simp only [sfx, enc42, enc43, h1, St.cut, h2, h3, cp_no h3]
    rfl
  · have h1 : hasPre (B (63 :: r)) ⟨#[63]⟩ = true := hy
    have h2 : cutPre (B (63 :: r)) ⟨#[63]⟩ = B r := hc
    have h3 : hasPre (B (63 :: r)) ⟨#[42]⟩ = false := hn 42 (by decide)
    have h4 : hasPre (B (63 :: r)) ⟨#[43]⟩ = false := hn 43 (by decide)
    simp only [sfx, enc42, enc43, enc63, h1, St.cut, h2, h3, cp_no h3, h4, cp_no h4]
    rfl
theorem enc_op {o : Int} (h : o = 42 ∨ o = 43 ∨ o = 63) : ∃ c : UInt8, Utf8.encode (wr .i32 o) = B [c] ∧ ((o = 42 ∧ c = 42) ∨ (o = 43 ∧ c = 43) ∨ (o = 63 ∧ c = 63)) ∧ isLow c = false := by
  rcases h with rfl | rfl | rfl
  · exact ⟨42, enc42, by simp, by decide⟩
  · exact ⟨43, enc43, by simp, by decide⟩
  · exact ⟨63, enc63, by simp, by decide⟩
/-- Each item is read as it was written, whatever fuel is left, if there is enough. -/
theorem item_reads : ∀ (n : Nat) (e : E), e.cnt ≤ n → e.ok = true → ∀ k, e.cnt ≤ k → Reads (itemN tl k) (e.txl true) e e.cnt Cend
  | 0, e, hn, _, _, _ => by have := cnt_eq e; omega
  | n + 1, e, hn, hok, k, hk => by
    have hc := cnt_eq e
    obtain ⟨k, rfl⟩ : ∃ j, k = j + 1 := ⟨k - 1, by omega⟩
    have IH : ∀ y : E, y.cnt < e.cnt → y.ok = true → Reads (itemN tl k) (y.txl true) y y.cnt Cend := fun y hy hyo => item_reads n y (by omega) hyo k (by omega)
    -- a sequence or less, of which all items are smaller
    have SQ : ∀ y : E, y.cnt < e.cnt → y.ok = true → y.op ≠ 97 → Reads (seqR k) (y.txl false) y y.cnt Cseq := fun y hy hyo hna =>
      seq_reads k y hyo hna (fun _ => IH y hy hyo) (fun h115 z hz => IH z (by have := cnt_kid hz; omega) (E.ok_kids hyo (by omega) z hz).1) y.cnt (fun _ => by omega) (fun _ => Nat.le_refl _)
    have AL : ∀ y : E, y.cnt ≤ e.cnt → y.ok = true → (y.op = 97 ∨ (y.op = 115 ∧ y.kids ≠ [])) → Reads (altR k) (y.txl false) y (y.cnt - 1) Calt := fun y hy hyo hop => by
      refine alt_reads k y hyo (y.cnt - 1) (fun h97 => ?_) (fun h97 z hz => ?_) (fun _ => Nat.le_refl _)
      · have h115 : y.op = 115 ∧ y.kids ≠ [] := by rcases hop with h | h; exact absurd h h97; exact h
        exact seq_reads k y hyo h97 (fun h => by rcases h with h | h; exact absurd h115.1 h; exact absurd h h115.2) (fun _ z hz => IH z (by have := cnt_kid hz; omega) (E.ok_kids hyo (by omega) z hz).1) (y.cnt - 1) (fun _ => Nat.le_refl _) (fun h => absurd h115 h)
      · have hz' := E.ok_kids hyo (by omega) z hz
        exact SQ z (by have := cnt_kid hz; omega) hz'.1 (by rw [← h97]; exact hz'.2)
    intro r m hr h0 hm
    have hw : wr .i64 (m + 1) = m + 1 := wr64 _ (by omega)
    have h48 : ¬ 48 < m + 1 := by omega
    cases hsx : e.suffix with
    | false =>
      obtain ⟨m', a, b, h⟩ := base_reads k e hok hsx (AL e (Nat.le_refl _) hok) r (m + 1) (fun c hc => (hr c hc).1) (by omega) (by omega)
      refine ⟨m', by omega, by omega, ?_⟩
      simp only [itemN, itemF, hw, if_neg h48]
      rw [h]
      exact sfx_none e r m' hr
    | true =>
      rcases E.ok_ops hok with ⟨h1, _⟩ | ⟨h1, _⟩ | ⟨h1, _⟩ | ⟨h1, hn', x, h2, hx⟩
      · simp [E.suffix, h1] at hsx
      · simp [E.suffix, h1] at hsx
      · simp [E.suffix, h1] at hsx
      · obtain ⟨c, q1, q2, q3⟩ := enc_op (o := e.op) (by omega)
        have hxo := (E.ok_kids hok (by omega) x (by rw [h2]; simp)).1
        have hcx : e.cnt = 1 + x.cnt := by rw [hc, h2]; simp
        have ht : e.txl true = x.txl true ++ [c] := by
          unfold E.txl
          rw [text_eq, if_neg (by omega), if_neg (by omega), if_neg (by omega), app_list, h2, q1, B_list]
          have e1 : joinB ([x].map fun z => z.text (!decide (e.op = 97))) ⟨#[]⟩ = x.text (!decide (e.op = 97)) := ext_list (by simp [joinB, Lib.join_one])
          have e2 : (!decide (e.op = 97)) = true := by simp; omega
          rw [e1, e2]
        obtain ⟨m', a, b, h⟩ := base_reads k x hxo hx (AL x (by omega) hxo) (c :: r) (m + 1) (fun d hd => by simp at hd; subst hd; exact q3) (by omega) (by omega)
        refine ⟨m', by omega, by omega, ?_⟩
        have he : e = .mk e.op ⟨#[]⟩ [x] := by
          obtain ⟨o, nn, ks⟩ := e
          simp only [E.name, E.kids] at hn' h2
          rw [hn', h2]
          rfl
        simp only [itemN, itemF, hw, if_neg h48]
        rw [ht, List.append_assoc]
        show sfx (baseF tl (altR k) ⟨B (x.txl true ++ ([c] ++ r)), false, m + 1⟩).1 _ (baseF tl (altR k) ⟨B (x.txl true ++ ([c] ++ r)), false, m + 1⟩).2 = _
        rw [show ([c] ++ r : List UInt8) = c :: r from rfl, h, sfx_one x e.op c q2 r m']
        conv => rhs; rw [he]
/-- WRITTEN AND READ: as it was. -/
theorem parse_text (e : E) (hr : e.right = true) (hc : e.cnt ≤ 1000) : parse (e.text false) = (e, 0) := by
  have hok : e.ok = true := by simp [E.right] at hr; exact hr.2
  have h24 : e.cnt ≤ 24 := by
    simp [E.right] at hr
    have := many_cnt e (by omega)
    omega
  have IT : ∀ y : E, y.cnt ≤ 24 → y.ok = true → Reads (itemN tl 49) (y.txl true) y y.cnt Cend := fun y hy hyo => item_reads 24 y hy hyo 49 (by omega)
  have SQ : ∀ y : E, y.cnt ≤ 24 → y.ok = true → y.op ≠ 97 → Reads (seqR 49) (y.txl false) y y.cnt Cseq := fun y hy hyo hna =>
    seq_reads 49 y hyo hna (fun _ => IT y hy hyo) (fun h115 z hz => IT z (by have := cnt_kid hz; omega) (E.ok_kids hyo (by omega) z hz).1) y.cnt (fun _ => by omega) (fun _ => Nat.le_refl _)
  have AL := alt_reads 49 e hok e.cnt (fun h => SQ e h24 hok h) (fun h97 z hz => by
    have hz' := E.ok_kids hok (by omega) z hz
    exact SQ z (by have := cnt_kid hz; omega) hz'.1 (by rw [← h97]; exact hz'.2)) (fun _ => by omega)
  obtain ⟨m', _, _, h⟩ := AL [] 0 ⟨⟨fun c hc => by simp at hc, by simp⟩, by simp⟩ (by omega) (by omega)
  have hread : read (e.text false) = (e, ⟨B [], false, m'⟩) := by
    have : e.text false = B (e.txl false ++ []) := by rw [List.append_nil, B_data]
    rw [this]
    exact h
  unfold parse
  rw [hread]
  simp [hr]
end Go.Proofs.D
