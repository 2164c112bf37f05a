/-
  EXPRESSIONS, NAME BY NAME: what may be left of one behind a name; all that may ever be left of it.
-/
import Derived.Test.YtciibpfhjfegnaaGreatDoorLO
import Derived.Test.YtciibpfhjfegnaaGreatDoorD10
set_option linter.unusedVariables false
set_option linter.unusedSimpArgs false
namespace Go.Proofs.D
open Go Go.Abs
abbrev Rest := List E
/-- May there be no name at all? -/
def E.nul : E → Bool
  | .mk op _ kids =>
    if op = 110 then false
    else if op = 97 then anyN kids
    else if op = 115 then allN kids
    else if op = 63 then true
    else if op = 42 then true
    else anyN kids
where
  anyN : List E → Bool
  | [] => false
  | k :: l => k.nul || anyN l
  allN : List E → Bool
  | [] => true
  | k :: l => k.nul && allN l
theorem nul_eq (e : E) : e.nul = if e.op = 110 then false else if e.op = 97 then E.nul.anyN e.kids else if e.op = 115 then E.nul.allN e.kids else if e.op = 63 then true else if e.op = 42 then true else E.nul.anyN e.kids := by
  obtain ⟨o, n, k⟩ := e
  rw [E.nul]
  rfl
def restL (r : Rest) : Row → Prop := E.L.seqL r
theorem restL_nil (w : Row) : restL [] w ↔ w = [] := Iff.rfl
theorem restL_cons (k : E) (r : Rest) (w : Row) : restL (k :: r) w ↔ ∃ u v, w = u ++ v ∧ k.L u ∧ restL r v := Iff.rfl
theorem restL_append (r s : Rest) (w : Row) : restL (r ++ s) w ↔ ∃ u v, w = u ++ v ∧ restL r u ∧ restL s v := by
  induction r generalizing w with
  | nil =>
    simp only [List.nil_append, restL_nil]
    exact ⟨fun h => ⟨[], w, rfl, rfl, h⟩, fun ⟨u, v, h1, h2, h3⟩ => by subst h2; simpa [h1] using h3⟩
  | cons k r ih =>
    simp only [List.cons_append, restL_cons, ih]
    constructor
    · rintro ⟨u, v, rfl, h1, u', v', rfl, h2, h3⟩
      exact ⟨u ++ u', v', by simp, ⟨u, u', rfl, h1, h2⟩, h3⟩
    · rintro ⟨u, v, rfl, ⟨u', v', rfl, h1, h2⟩, h3⟩
      exact ⟨u', v' ++ v, by simp, h1, v', v, rfl, h2, h3⟩
theorem restL_one (e : E) (w : Row) : restL [e] w ↔ e.L w := by
  simp only [restL_cons, restL_nil]
  exact ⟨fun ⟨u, v, h1, h2, h3⟩ => by subst h3; simpa [h1] using h2, fun h => ⟨w, [], by simp, h, rfl⟩⟩
theorem many_nil (p : Row → Prop) : Many p [] ↔ p [] := ⟨fun h => h.nil rfl, .one⟩
theorem ok_one {e : E} (h : e.ok = true) (h1 : e.op = 42 ∨ e.op = 43 ∨ e.op = 63) : ∃ k, e.kids = [k] := by
  rcases E.ok_ops h with ⟨g, _⟩ | ⟨g, _⟩ | ⟨g, _⟩ | ⟨_, _, x, g, _⟩
  · omega
  · omega
  · omega
  · exact ⟨x, g⟩
theorem ok_kid {e k : E} (h : e.ok = true) (hk : k ∈ e.kids) : k.ok = true := by
  by_cases h1 : e.op = 110
  · rcases E.ok_ops h with ⟨_, g⟩ | ⟨g, _⟩ | ⟨g, _⟩ | ⟨g, _⟩
    · rw [g] at hk; cases hk
    · omega
    · omega
    · omega
  · exact (E.ok_kids h h1 k hk).1
theorem ok_cases {e : E} (h : e.ok = true) : e.op = 110 ∨ e.op = 97 ∨ e.op = 115 ∨ e.op = 63 ∨ e.op = 42 ∨ e.op = 43 := by
  rcases E.ok_ops h with ⟨g, _⟩ | ⟨g, _⟩ | ⟨g, _⟩ | ⟨g, _⟩ <;> omega
theorem nul_iff (e : E) (hok : e.ok = true) : e.nul = true ↔ e.L [] := by
  have hA : ∀ l : List E, (∀ k ∈ l, (k.nul = true ↔ k.L [])) → (E.nul.anyN l = true ↔ E.L.altL l []) := by
    intro l
    induction l with
    | nil => intro _; simp [E.nul.anyN, E.L.altL]
    | cons k l ih =>
      intro h
      simp only [E.nul.anyN, E.L.altL, Bool.or_eq_true, h k (by simp), ih fun x hx => h x (by simp [hx])]
  have hS : ∀ l : List E, (∀ k ∈ l, (k.nul = true ↔ k.L [])) → (E.nul.allN l = true ↔ E.L.seqL l []) := by
    intro l
    induction l with
    | nil => intro _; simp [E.nul.allN, E.L.seqL]
    | cons k l ih =>
      intro h
      simp only [E.nul.allN, E.L.seqL, Bool.and_eq_true, h k (by simp), ih fun x hx => h x (by simp [hx])]
      constructor
      · exact fun ⟨a, b⟩ => ⟨[], [], rfl, a, b⟩
      · rintro ⟨u, v, h1, a, b⟩
        obtain ⟨rfl, rfl⟩ := List.append_eq_nil_iff.1 h1.symm
        exact ⟨a, b⟩
  have hk : ∀ k ∈ e.kids, (k.nul = true ↔ k.L []) := fun k hk => nul_iff k (ok_kid hok hk)
  rw [nul_eq]
  rcases ok_cases hok with h | h | h | h | h | h
  · rw [L_one h, h]; simp
  · rw [L_alt h, h]; simp [hA _ hk]
  · rw [L_seq h, h]; simp [hS _ hk]
  · rw [L_opt h, h]; simp
  · rw [L_rep (.inl h), h]; simp
  · obtain ⟨k, hkk⟩ := ok_one hok (by omega)
    rw [L_rep (.inr h), h, hkk]
    simp only [E.L.headL, many_nil, E.nul.anyN]
    rw [hkk] at hk
    simp [hk k (by simp)]
termination_by SizeOf.sizeOf e
decreasing_by exact E.kids_lt hk
/-- What may be left behind a name. -/
def E.beh (a : ByteArray) : E → List Rest
  | .mk op name kids =>
    if op = 110 then (if name = a then [[]] else [])
    else if op = 97 then altB kids
    else if op = 115 then seqB kids
    else if op = 63 then headB kids
    else (headB kids).map (· ++ [.mk 42 ⟨#[]⟩ kids])
where
  altB : List E → List Rest
  | [] => []
  | k :: l => k.beh a ++ altB l
  seqB : List E → List Rest
  | [] => []
  | k :: l => (k.beh a).map (· ++ l) ++ (if k.nul = true then seqB l else [])
  headB : List E → List Rest
  | [] => []
  | k :: _ => k.beh a
theorem beh_eq (a : ByteArray) (e : E) : e.beh a = if e.op = 110 then (if e.name = a then [[]] else []) else if e.op = 97 then E.beh.altB a e.kids else if e.op = 115 then E.beh.seqB a e.kids else if e.op = 63 then E.beh.headB a e.kids
    else (E.beh.headB a e.kids).map (· ++ [.mk 42 ⟨#[]⟩ e.kids]) := by
  obtain ⟨o, n, k⟩ := e
  rw [E.beh]
  rfl
def stepR (a : ByteArray) (r : Rest) : List Rest := E.beh.seqB a r
def nulR (r : Rest) : Bool := E.nul.allN r
theorem many_cons {p : Row → Prop} {a : ByteArray} {w : Row} : Many p (a :: w) ↔ ∃ u v, w = u ++ v ∧ p (a :: u) ∧ (v = [] ∨ Many p v) := by
  constructor
  · intro h
    have key : ∀ x, Many p x → ∀ w, x = a :: w → ∃ u v, w = u ++ v ∧ p (a :: u) ∧ (v = [] ∨ Many p v) := by
      intro x hx
      induction hx with
      | one h => intro w e; exact ⟨w, [], by simp, e ▸ h, .inl rfl⟩
      | @more u v h' hm ih =>
        intro w e
        cases u with
        | nil => exact ih w e
        | cons c u =>
          rw [List.cons_append, List.cons.injEq] at e
          obtain ⟨rfl, rfl⟩ := e
          exact ⟨u, v, rfl, h', .inr hm⟩
    exact key _ h w rfl
  · rintro ⟨u, v, rfl, h1, rfl | h2⟩
    · rw [List.append_nil]; exact .one h1
    · exact .more h1 h2
theorem seqB_L (a : ByteArray) : ∀ (l : List E), (∀ k ∈ l, k.ok = true ∧ ∀ w, (k.L (a :: w) ↔ ∃ r ∈ k.beh a, restL r w)) → ∀ w, restL l (a :: w) ↔ ∃ r ∈ E.beh.seqB a l, restL r w
  | [], _, w => by simp [restL_nil, E.beh.seqB]
  | k :: l, h, w => by
    obtain ⟨hk, hL⟩ := h k (by simp)
    have ih := seqB_L a l (fun x hx => h x (by simp [hx]))
    simp only [restL_cons, E.beh.seqB, List.mem_append, List.mem_map]
    constructor
    · rintro ⟨u, v, h1, h2, h3⟩
      cases u with
      | nil =>
        rw [List.nil_append] at h1
        subst h1
        obtain ⟨r, hr, hw⟩ := (ih w).1 h3
        exact ⟨r, .inr (by rw [if_pos ((nul_iff k hk).2 h2)]; exact hr), hw⟩
      | cons c u =>
        rw [List.cons_append, List.cons.injEq] at h1
        obtain ⟨rfl, rfl⟩ := h1
        obtain ⟨r, hr, hw⟩ := (hL u).1 h2
        exact ⟨r ++ l, .inl ⟨r, hr, rfl⟩, (restL_append r l _).2 ⟨u, v, rfl, hw, h3⟩⟩
    · rintro ⟨r, ⟨s, hs, rfl⟩ | hr, hw⟩
      · obtain ⟨u, v, rfl, h1, h2⟩ := (restL_append s l _).1 hw
        exact ⟨a :: u, v, rfl, (hL u).2 ⟨s, hs, h1⟩, h2⟩
      · split at hr
        · rename_i hn
          exact ⟨[], a :: w, rfl, (nul_iff k hk).1 hn, (ih w).2 ⟨r, hr, hw⟩⟩
        · cases hr
theorem beh_L (a : ByteArray) (e : E) (hok : e.ok = true) (w : Row) : e.L (a :: w) ↔ ∃ r ∈ e.beh a, restL r w := by
  have hk : ∀ k ∈ e.kids, k.ok = true ∧ ∀ w, (k.L (a :: w) ↔ ∃ r ∈ k.beh a, restL r w) := fun k hk => ⟨ok_kid hok hk, beh_L a k (ok_kid hok hk)⟩
  have hA : ∀ l : List E, (∀ k ∈ l, ∀ w, (k.L (a :: w) ↔ ∃ r ∈ k.beh a, restL r w)) → (E.L.altL l (a :: w) ↔ ∃ r ∈ E.beh.altB a l, restL r w) := by
    intro l
    induction l with
    | nil => intro _; simp [E.L.altL, E.beh.altB]
    | cons k l ih =>
      intro h
      simp only [E.L.altL, E.beh.altB, List.mem_append, h k (by simp) w, ih fun x hx => h x (by simp [hx])]
      constructor
      · rintro (⟨r, h1, h2⟩ | ⟨r, h1, h2⟩)
        · exact ⟨r, .inl h1, h2⟩
        · exact ⟨r, .inr h1, h2⟩
      · rintro ⟨r, h1 | h1, h2⟩
        · exact .inl ⟨r, h1, h2⟩
        · exact .inr ⟨r, h1, h2⟩
  rw [beh_eq]
  rcases ok_cases hok with h | h | h | h | h | h
  · rw [L_one h, h, if_pos rfl]
    split
    · rename_i hn
      simp [restL_nil, hn]
    · rename_i hn
      have hn' : ¬ a = e.name := fun h => hn h.symm
      simp [hn']
  · rw [L_alt h, h]
    simpa using hA _ fun k hk' => (hk k hk').2
  · rw [L_seq h, h]
    simpa [restL] using seqB_L a _ hk w
  · obtain ⟨k, hkk⟩ := ok_one hok (by omega)
    rw [hkk] at hk
    rw [L_opt h, h, hkk]
    simp only [E.L.headL, E.beh.headB]
    simpa using (hk k (by simp)).2 w
  all_goals
    obtain ⟨k, hkk⟩ := ok_one hok (by omega)
    rw [hkk] at hk
    rw [L_rep (by omega), h, hkk]
    simp only [E.L.headL, E.beh.headB]
    simp only [reduceCtorEq, and_false, false_or, many_cons]
    simp only [show ¬ ((42 : Int) = 110) from by decide, show ¬ ((42 : Int) = 97) from by decide, show ¬ ((42 : Int) = 115) from by decide, show ¬ ((42 : Int) = 63) from by decide, show ¬ ((43 : Int) = 110) from by decide, show ¬ ((43 : Int) = 97) from by decide, show ¬ ((43 : Int) = 115) from by decide, show ¬ ((43 : Int) = 63) from by decide, if_false, List.mem_map]
    constructor
    · rintro ⟨u, v, rfl, h1, h2⟩
      obtain ⟨r, hr, hw⟩ := ((hk k (by simp)).2 u).1 h1
      refine ⟨_, ⟨r, hr, rfl⟩, (restL_append r _ _).2 ⟨u, v, rfl, hw, (restL_one _ _).2 ?_⟩⟩
      rw [L_rep (.inl rfl)]
      simpa [E.op, E.kids, E.L.headL] using h2
    · rintro ⟨_, ⟨r, hr, rfl⟩, hw⟩
      obtain ⟨u, v, rfl, h1, h2⟩ := (restL_append r _ _).1 hw
      refine ⟨u, v, rfl, ((hk k (by simp)).2 u).2 ⟨r, hr, h1⟩, ?_⟩
      rw [restL_one, L_rep (.inl rfl)] at h2
      simpa [E.op, E.kids, E.L.headL] using h2
termination_by SizeOf.sizeOf e
decreasing_by all_goals exact E.kids_lt hk
theorem stepR_L (a : ByteArray) (r : Rest) (h : ∀ k ∈ r, k.ok = true) (w : Row) : restL r (a :: w) ↔ ∃ s ∈ stepR a r, restL s w := seqB_L a r (fun k hk => ⟨h k hk, beh_L a k (h k hk)⟩) w
theorem nulR_iff (r : Rest) (h : ∀ k ∈ r, k.ok = true) : nulR r = true ↔ restL r [] := by
  unfold nulR restL
  induction r with
  | nil => simp [E.nul.allN, E.L.seqL]
  | cons k l ih =>
    simp only [E.nul.allN, E.L.seqL, Bool.and_eq_true, nul_iff k (h k (by simp)), ih fun x hx => h x (by simp [hx])]
    constructor
    · exact fun ⟨a, b⟩ => ⟨[], [], rfl, a, b⟩
    · rintro ⟨u, v, h1, a, b⟩
      obtain ⟨rfl, rfl⟩ := List.append_eq_nil_iff.1 h1.symm
      exact ⟨a, b⟩
end Go.Proofs.D
/-
  REPEATED EXPRESSIONS: how many parts they have, how light they are.
-/
set_option linter.unusedVariables false
set_option linter.unusedSimpArgs false
namespace Go.Proofs.D
open Go Go.Abs
abbrev suf (o : Int) (e : E) : E := .mk o ⟨#[]⟩ [e]
theorem suf_many (o : Int) (e : E) : (suf o e).many = wr .i64 (1 + e.many) := by rw [E.many_eq]; rfl
theorem many_range (e : E) : -9223372036854775808 ≤ e.many ∧ e.many < 9223372036854775808 := by
  have key : ∀ (l : List E) (n : Int), (-9223372036854775808 ≤ n ∧ n < 9223372036854775808) → (-9223372036854775808 ≤ l.foldl (fun n x => wr .i64 (n + x.many)) n ∧ l.foldl (fun n x => wr .i64 (n + x.many)) n < 9223372036854775808) := by
    intro l
    induction l with
    | nil => intro n h; exact h
    | cons x l ih =>
      intro n h
      refine ih _ ?_
      dsimp only
      rw [wr_eq, IntKind.wrap_i64]
      omega
  rw [E.many_eq]
  exact key _ _ (by omega)
theorem suf_ok {o : Int} (ho : o = 42 ∨ o = 43 ∨ o = 63) (e : E) : (suf o e).ok = (!e.suffix && e.ok) := by
  rw [E.ok_eq]
  have h1 : ¬ o = 110 := by omega
  have h2 : ¬ o = 115 := by omega
  have h3 : ¬ o = 97 := by omega
  have a1 : (suf o e).op = o := rfl
  have a2 : (suf o e).kids = [e] := rfl
  have a3 : (suf o e).name = ⟨#[]⟩ := rfl
  simp only [a1, a2, a3]
  cases hs : e.suffix with
  | true => simp [h1, h2, h3, hs]
  | false =>
    have h4 : ¬ e.op = o := by
      intro h
      simp [E.suffix] at hs
      omega
    simp [h1, h2, h3, ho, hs, h4]
theorem suf_right {o o' : Int} (ho : o = 42 ∨ o = 43 ∨ o = 63) (ho' : o' = 42 ∨ o' = 43 ∨ o' = 63) {e : E} (h : (suf o e).right = true) : (suf o' e).right = true := by
  simp only [E.right, suf_ok ho, suf_ok ho', suf_many] at h ⊢
  exact h
theorem suf_right_of {o : Int} (ho : o = 42 ∨ o = 43 ∨ o = 63) {e : E} (hc : e.many < 9223372036854775807) (h : (suf o e).right = true) : e.right = true := by
  simp only [E.right, suf_ok ho, suf_many, Bool.and_eq_true, decide_eq_true_eq] at h ⊢
  have := many_range e
  rw [wr64 _ (by omega)] at h
  exact ⟨by omega, h.2.2⟩
theorem suf_small {o : Int} {e : E} (h : e.small) : (suf o e).small := E.small_mk (by decide) (by simpa using h)
theorem many_cnt (e : E) (h : e.cnt ≤ 1000000000) : e.many = e.cnt := by
  have key : ∀ (l : List E) (n : Nat), (∀ k ∈ l, k.many = k.cnt) → n + (l.map E.cnt).sum ≤ 1000000000 → l.foldl (fun n x => wr .i64 (n + x.many)) (n : Int) = ((n + (l.map E.cnt).sum : Nat) : Int) := by
    intro l
    induction l with
    | nil => intro n _ _; simp
    | cons x l ih =>
      intro n hk hn
      simp at hn
      simp only [List.foldl_cons, List.map_cons, List.sum_cons]
      rw [hk x (by simp), wr64 _ (by omega)]
      have := ih (n + x.cnt) (fun k hk' => hk k (by simp [hk'])) (by omega)
      rw [Nat.add_assoc] at this
      simpa using this
  rw [E.many_eq]
  have hc := cnt_eq e
  have := key e.kids 1 (fun k hk => many_cnt k (by have := cnt_kid hk; omega)) (by omega)
  rw [hc]
  exact this
termination_by SizeOf.sizeOf e
decreasing_by exact E.kids_lt hk
theorem light_cnt (e : E) (hs : e.small) (left : Int) (h0 : -1000000000 ≤ left) (h1 : left ≤ 1000000000) (h : 1 ≤ e.light left) : (e.cnt : Int) + e.light left ≤ left := by
  have key : ∀ l : List E, (∀ k ∈ l, ∀ x : Int, -1000000000 ≤ x → x ≤ 1000000000 → 1 ≤ k.light x → (k.cnt : Int) + k.light x ≤ x) → ∀ x : Int, x ≤ 1000000000 → 1 ≤ E.light.go l x → (((l.map E.cnt).sum : Nat) : Int) + E.light.go l x ≤ x := by
    intro l
    induction l with
    | nil => intro _ x _ _; simp [E.light.go]
    | cons y l ih =>
      intro hk x hx hg
      simp only [E.light.go] at hg ⊢
      by_cases hp : 0 < x
      · rw [if_pos hp] at hg ⊢
        by_cases hy : 1 ≤ y.light x
        · have := hk y (by simp) x (by omega) hx hy
          have := ih (fun k hk' => hk k (by simp [hk'])) (y.light x) (by omega) hg
          simp
          omega
        · exfalso
          have : E.light.go l (y.light x) = y.light x := by
            cases l with
            | nil => rfl
            | cons z l => simp only [E.light.go]; rw [if_neg (by omega)]
          omega
      · rw [if_neg hp] at hg
        omega
  have hn := E.small_name hs
  rw [light_eq] at h ⊢
  have e1 : wr .i64 (left - 1) = left - 1 := wr64 _ (by omega)
  have e2 : wr .i64 ((e.name.size : Int) / 20) = (e.name.size : Int) / 20 := wr64 _ (by omega)
  rw [e1, e2, wr64 _ (by omega)] at h ⊢
  split at h
  · omega
  · rename_i hg
    rw [if_neg hg]
    have := key e.kids (fun k hk x a1 a2 a3 => light_cnt k (E.small_kids hs k hk) x a1 a2 a3) (left - 1 - (e.name.size : Int) / 20) (by omega) (by omega)
    rw [cnt_eq]
    simp
    omega
termination_by SizeOf.sizeOf e
decreasing_by exact E.kids_lt hk
theorem light_neg (e : E) (left : Int) : e.light left < 0 ∨ 1 ≤ e.light left := by
  rw [light_eq]
  split
  · left; omega
  · right; omega
end Go.Proofs.D
/-
  THE READER: sequences and alternatives.
-/
set_option linter.unusedVariables false
set_option linter.unusedSimpArgs false
namespace Go.Proofs.D
open Go Go.Abs
attribute [local simp] VC VCS stepVS stepTopS firstId memN bigB unmark markT mkOff calmP keepT boundB boundC stepV stepTop stepReg stepOp stMove stPick stBin stUn stConv stBox stAlloc stLoad stStore stFieldAddr stField stExtract stNilCheck stMakeFunc stIndexAddr stIndex stLen
  stBuild placesOf fillA stBuildSlice sliceCells repL chunks allPV toPV drawOk drawOk.go mayMakeO mayMake1 disjoint pairS Oper.apart Oper.looksAt Op.operands Call.operands Region.binds stAppend appBase appTail unName stSlice bndA
  LS.ev LS.get LS.blk LS.put LS.app LS.upd lkS lkH setS setH Nm.eqb guardOf nexts okPair dstOk AV.cellsOf takeAt putAt lkT sliceE fieldT intK isStrT isBoolT abin newOk LS.freshB LS.freshB.go LS.freshB.goH notIn AV.ments AV.ments.mentsL Blk.ments makes upsMents LS.start startL exitTo T Nat.blt
  conv convS convH srcs srcOf blkOk leA leA.leL Go.Abs.leB leP laid laidM laidG isArg subH retP resAV resL res1 AV.frz AV.frz.frzL evL AV.ren AV.ren.renL Blk.ren renBs blksOf allSome nodupB onlyArgs blksMents callUps keyed inName inName.go backName callSide
theorem f54 (Gl : Granted) (read : St → E × St) (I : St → Prop) (hr : ∀ s, I s → Fun Tryz.prog Gl 158 [.ptr (.arg 0) 0] [some s.b] (read s).1.av [some (read s).2.b]) (hle : ∀ s, I s → (read s).2.left.size ≤ s.left.size)
    (hI : ∀ s, I s → (read s).2.bad = false → I (read s).2) (hcut : ∀ s sign, I s → hasPre s.left sign = true → I (s.cut sign)) (s : St) (hs0 : I s) (hsz : s.left.size ≤ 1000000000) :
    Fun Tryz.prog Gl 126 [.ptr (.arg 0) 0] [some s.b] (several read 115 ⟨#[32]⟩ s).1.av [some (several read 115 ⟨#[32]⟩ s).2.b] := by
  refine fun_of (T := T) (n := 7) (rs := [.cell 2 24]) Tryz.func126 (by kernel_rfl) rfl rfl rfl tok mixed (by simp) fun C hC => ?_
  refine hC.vc [] 60 ?_
  simp
  refine hC.call [.arg 0] (f53 Gl read 115 ⟨#[32]⟩ 158 I hr hle hI (fun q => hcut q _) (by decide) s hs0 hsz) (by simp [E.av, E.cells]) ?_
  refine hC.vc [] 60 ?_
  simp [E.av, E.cells]
theorem f28 (Gl : Granted) (read : St → E × St) (I : St → Prop) (hr : ∀ s, I s → Fun Tryz.prog Gl 126 [.ptr (.arg 0) 0] [some s.b] (read s).1.av [some (read s).2.b]) (hle : ∀ s, I s → (read s).2.left.size ≤ s.left.size)
    (hI : ∀ s, I s → (read s).2.bad = false → I (read s).2) (hcut : ∀ s sign, I s → hasPre s.left sign = true → I (s.cut sign)) (s : St) (hs0 : I s) (hsz : s.left.size ≤ 1000000000) :
    Fun Tryz.prog Gl 85 [.ptr (.arg 0) 0] [some s.b] (several read 97 ⟨#[124]⟩ s).1.av [some (several read 97 ⟨#[124]⟩ s).2.b] := by
  refine fun_of (T := T) (n := 7) (rs := [.cell 2 24]) Tryz.func85 (by kernel_rfl) rfl rfl rfl tok mixed (by simp) fun C hC => ?_
  refine hC.vc [] 60 ?_
  simp
  refine hC.call [.arg 0] (f53 Gl read 97 ⟨#[124]⟩ 126 I hr hle hI (fun q => hcut q _) (by decide) s hs0 hsz) (by simp [E.av, E.cells]) ?_
  refine hC.vc [] 60 ?_
  simp [E.av, E.cells]
end Go.Proofs.D
/-
  ALL THAT MAY EVER BE LEFT OF AN EXPRESSION, by the name that was met last: a list as long as its names' places.
-/
set_option linter.unusedVariables false
set_option linter.unusedSimpArgs false
namespace Go.Proofs.D
open Go Go.Abs
def again (kids : List E) : E := .mk 42 ⟨#[]⟩ kids
def E.pdy (y : ByteArray) : E → List Rest
  | .mk op name kids =>
    if op = 110 then (if name = y then [[]] else [])
    else if op = 97 then altP kids
    else if op = 115 then seqP kids
    else if op = 63 then headP kids
    else (headP kids).map (· ++ [.mk 42 ⟨#[]⟩ kids])
where
  altP : List E → List Rest
  | [] => []
  | k :: l => k.pdy y ++ altP l
  seqP : List E → List Rest
  | [] => []
  | k :: l => (k.pdy y).map (· ++ l) ++ seqP l
  headP : List E → List Rest
  | [] => []
  | k :: _ => k.pdy y
theorem pdy_eq (y : ByteArray) (e : E) : e.pdy y = if e.op = 110 then (if e.name = y then [[]] else []) else if e.op = 97 then E.pdy.altP y e.kids else if e.op = 115 then E.pdy.seqP y e.kids else if e.op = 63 then E.pdy.headP y e.kids
    else (E.pdy.headP y e.kids).map (· ++ [again e.kids]) := by
  obtain ⟨o, n, k⟩ := e
  rw [E.pdy]
  rfl
/-- How many places of names there are. -/
def E.leaves : E → Nat
  | .mk op _ kids => if op = 110 then 1 else go kids
where go : List E → Nat
  | [] => 0
  | k :: l => k.leaves + go l
theorem leaves_eq (e : E) : e.leaves = if e.op = 110 then 1 else E.leaves.go e.kids := by
  obtain ⟨o, n, k⟩ := e
  rw [E.leaves]
  rfl
theorem leaves_le (e : E) : e.leaves ≤ e.cnt ∧ (e.op = 110 ∨ e.leaves + 1 ≤ e.cnt) := by
  have hk : ∀ l : List E, (∀ k ∈ l, k.leaves ≤ k.cnt) → E.leaves.go l ≤ (l.map E.cnt).sum := by
    intro l
    induction l with
    | nil => intro _; simp [E.leaves.go]
    | cons x l ih =>
      intro h
      have h1 := h x (by simp)
      have h2 := ih fun y hy => h y (by simp [hy])
      simp [E.leaves.go]
      omega
  have := hk e.kids fun k hk => (leaves_le k).1
  rw [leaves_eq, cnt_eq]
  split <;> omega
termination_by SizeOf.sizeOf e
decreasing_by exact E.kids_lt hk
theorem stepR_append (a : ByteArray) (r s : Rest) : stepR a (r ++ s) = (stepR a r).map (· ++ s) ++ (if nulR r = true then stepR a s else []) := by
  unfold stepR nulR
  induction r with
  | nil => simp [E.beh.seqB, E.nul.allN]
  | cons k r ih =>
    simp only [List.cons_append, E.beh.seqB, E.nul.allN, ih]
    by_cases hk : k.nul = true
    · simp [hk]
    · simp [hk]
theorem stepR_one (a : ByteArray) (e : E) : stepR a [e] = e.beh a := by
  unfold stepR
  simp [E.beh.seqB]
theorem beh_again (a : ByteArray) (kids : List E) : (again kids).beh a = (E.beh.headB a kids).map (· ++ [again kids]) := by
  rw [beh_eq]
  rfl
section
variable (y : ByteArray)
theorem seqB_sub (l : List E) (h : ∀ k ∈ l, ∀ r ∈ k.beh y, r ∈ k.pdy y) : ∀ r ∈ E.beh.seqB y l, r ∈ E.pdy.seqP y l := by
  induction l with
  | nil => intro r hr; cases hr
  | cons k l ih =>
    intro r hr
    simp only [E.beh.seqB, List.mem_append, List.mem_map] at hr
    simp only [E.pdy.seqP, List.mem_append, List.mem_map]
    rcases hr with ⟨s, hs, rfl⟩ | hr
    · exact .inl ⟨s, h k (by simp) s hs, rfl⟩
    · split at hr
      · exact .inr (ih (fun x hx => h x (by simp [hx])) r hr)
      · cases hr
theorem beh_sub (e : E) : ∀ r ∈ e.beh y, r ∈ e.pdy y := by
  have hk : ∀ k ∈ e.kids, ∀ r ∈ k.beh y, r ∈ k.pdy y := fun k hk => beh_sub k
  have hA : ∀ l : List E, (∀ k ∈ l, ∀ r ∈ k.beh y, r ∈ k.pdy y) → ∀ r ∈ E.beh.altB y l, r ∈ E.pdy.altP y l := by
    intro l
    induction l with
    | nil => intro _ r hr; cases hr
    | cons k l ih =>
      intro h r hr
      simp only [E.beh.altB, List.mem_append] at hr
      simp only [E.pdy.altP, List.mem_append]
      rcases hr with hr | hr
      · exact .inl (h k (by simp) r hr)
      · exact .inr (ih (fun x hx => h x (by simp [hx])) r hr)
  have hH : ∀ l : List E, (∀ k ∈ l, ∀ r ∈ k.beh y, r ∈ k.pdy y) → ∀ r ∈ E.beh.headB y l, r ∈ E.pdy.headP y l := by
    intro l h r hr
    cases l with
    | nil => cases hr
    | cons k l => exact h k (by simp) r hr
  intro r hr
  rw [beh_eq] at hr
  rw [pdy_eq]
  by_cases h1 : e.op = 110
  · rw [if_pos h1] at hr ⊢; exact hr
  · rw [if_neg h1] at hr ⊢
    by_cases h2 : e.op = 97
    · rw [if_pos h2] at hr ⊢; exact hA _ hk r hr
    · rw [if_neg h2] at hr ⊢
      by_cases h3 : e.op = 115
      · rw [if_pos h3] at hr ⊢; exact seqB_sub y _ hk r hr
      · rw [if_neg h3] at hr ⊢
        by_cases h4 : e.op = 63
        · rw [if_pos h4] at hr ⊢; exact hH _ hk r hr
        · rw [if_neg h4] at hr ⊢
          obtain ⟨s, hs, rfl⟩ := List.mem_map.1 hr
          exact List.mem_map.2 ⟨s, hH _ hk s hs, rfl⟩
termination_by SizeOf.sizeOf e
decreasing_by exact E.kids_lt hk
/-- Closed: what is left of what is left is left. -/
theorem pdy_closed (z : ByteArray) (e : E) : ∀ r ∈ e.pdy z, ∀ s ∈ stepR y r, s ∈ e.pdy y := by
  have hk : ∀ k ∈ e.kids, ∀ r ∈ k.pdy z, ∀ s ∈ stepR y r, s ∈ k.pdy y := fun k hk => pdy_closed z k
  have hA : ∀ l : List E, (∀ k ∈ l, ∀ r ∈ k.pdy z, ∀ s ∈ stepR y r, s ∈ k.pdy y) → ∀ r ∈ E.pdy.altP z l, ∀ s ∈ stepR y r, s ∈ E.pdy.altP y l := by
    intro l
    induction l with
    | nil => intro _ r hr; cases hr
    | cons k l ih =>
      intro h r hr s hs
      simp only [E.pdy.altP, List.mem_append] at hr ⊢
      rcases hr with hr | hr
      · exact .inl (h k (by simp) r hr s hs)
      · exact .inr (ih (fun x hx => h x (by simp [hx])) r hr s hs)
  have hS : ∀ l : List E, (∀ k ∈ l, ∀ r ∈ k.pdy z, ∀ s ∈ stepR y r, s ∈ k.pdy y) → ∀ r ∈ E.pdy.seqP z l, ∀ s ∈ stepR y r, s ∈ E.pdy.seqP y l := by
    intro l
    induction l with
    | nil => intro _ r hr; cases hr
    | cons k l ih =>
      intro h r hr s hs
      simp only [E.pdy.seqP, List.mem_append, List.mem_map] at hr ⊢
      rcases hr with ⟨t, ht, rfl⟩ | hr
      · rw [stepR_append, List.mem_append, List.mem_map] at hs
        rcases hs with ⟨q, hq, rfl⟩ | hs
        · exact .inl ⟨q, h k (by simp) t ht q hq, rfl⟩
        · split at hs
          · exact .inr (seqB_sub y l (fun x hx => beh_sub y x) s hs)
          · cases hs
      · exact .inr (ih (fun x hx => h x (by simp [hx])) r hr s hs)
  have hH : ∀ l : List E, (∀ k ∈ l, ∀ r ∈ k.pdy z, ∀ s ∈ stepR y r, s ∈ k.pdy y) → ∀ r ∈ E.pdy.headP z l, ∀ s ∈ stepR y r, s ∈ E.pdy.headP y l := by
    intro l h r hr s hs
    cases l with
    | nil => cases hr
    | cons k l => exact h k (by simp) r hr s hs
  intro r hr s hs
  rw [pdy_eq] at hr ⊢
  by_cases h1 : e.op = 110
  · rw [if_pos h1] at hr ⊢
    split at hr
    · simp at hr; subst hr; cases hs
    · cases hr
  · rw [if_neg h1] at hr ⊢
    by_cases h2 : e.op = 97
    · rw [if_pos h2] at hr ⊢; exact hA _ hk r hr s hs
    · rw [if_neg h2] at hr ⊢
      by_cases h3 : e.op = 115
      · rw [if_pos h3] at hr ⊢; exact hS _ hk r hr s hs
      · rw [if_neg h3] at hr ⊢
        by_cases h4 : e.op = 63
        · rw [if_pos h4] at hr ⊢; exact hH _ hk r hr s hs
        · rw [if_neg h4] at hr ⊢
          obtain ⟨t, ht, rfl⟩ := List.mem_map.1 hr
          rw [stepR_append, List.mem_append, List.mem_map] at hs
          rcases hs with ⟨q, hq, rfl⟩ | hs
          · exact List.mem_map.2 ⟨q, hH _ hk t ht q hq, rfl⟩
          · split at hs
            · rw [stepR_one, beh_again] at hs
              obtain ⟨q, hq, rfl⟩ := List.mem_map.1 hs
              refine List.mem_map.2 ⟨q, ?_, rfl⟩
              revert hq
              generalize e.kids = l
              intro hq
              cases l with
              | nil => cases hq
              | cons k l => exact beh_sub y k q hq
            · cases hs
termination_by SizeOf.sizeOf e
decreasing_by exact E.kids_lt hk
end
theorem again_ok {e : E} (h : e.ok = true) (h1 : e.op = 42 ∨ e.op = 43) : (again e.kids).ok = true ∧ (again e.kids).cnt = e.cnt := by
  constructor
  · rcases E.ok_ops h with ⟨g, _⟩ | ⟨g, _⟩ | ⟨g, _⟩ | ⟨_, _, x, g, gs⟩
    · omega
    · omega
    · omega
    · have hx := E.ok_kids h (by omega) x (by rw [g]; simp)
      have hx42 : ¬ x.op = 42 := by
        intro e
        simp [E.suffix, e] at gs
      rw [g, again, E.ok_eq]
      have e1 : (E.mk 42 ⟨#[]⟩ [x]).op = 42 := rfl
      have e2 : (E.mk 42 ⟨#[]⟩ [x]).name = ⟨#[]⟩ := rfl
      have e3 : (E.mk 42 ⟨#[]⟩ [x]).kids = [x] := rfl
      simp [e1, e2, e3, gs, hx.1, hx42]
  · rw [cnt_eq, cnt_eq e]; rfl
/-- What is left is made of expressions that are formed, no larger than the whole, and not too many. -/
theorem pdy_ok (y : ByteArray) (e : E) (hok : e.ok = true) : ∀ r ∈ e.pdy y, r.length ≤ e.cnt ∧ ∀ k ∈ r, k.ok = true ∧ k.cnt ≤ e.cnt := by
  have hk : ∀ k ∈ e.kids, ∀ r ∈ k.pdy y, r.length ≤ k.cnt ∧ ∀ x ∈ r, x.ok = true ∧ x.cnt ≤ k.cnt := fun k hk => pdy_ok y k (ok_kid hok hk)
  have hsum : ∀ l : List E, l.length ≤ (l.map E.cnt).sum := fun l => by
    induction l with
    | nil => simp
    | cons x l ih => have : 1 ≤ x.cnt := (by rw [cnt_eq]; omega); simp; omega
  have hmem : ∀ (l : List E) (x : E), x ∈ l → x.cnt ≤ (l.map E.cnt).sum := fun l x => by
    induction l with
    | nil => intro h; cases h
    | cons z l ih =>
      intro h
      rcases List.mem_cons.1 h with rfl | h
      · simp
      · have := ih h; simp; omega
  have hA : ∀ l : List E, (∀ k ∈ l, k.ok = true ∧ ∀ r ∈ k.pdy y, r.length ≤ k.cnt ∧ ∀ x ∈ r, x.ok = true ∧ x.cnt ≤ k.cnt) → ∀ r ∈ E.pdy.altP y l, r.length ≤ (l.map E.cnt).sum ∧ ∀ x ∈ r, x.ok = true ∧ x.cnt ≤ (l.map E.cnt).sum := by
    intro l
    induction l with
    | nil => intro _ r hr; cases hr
    | cons k l ih =>
      intro h r hr
      simp only [E.pdy.altP, List.mem_append] at hr
      simp only [List.map_cons, List.sum_cons]
      rcases hr with hr | hr
      · obtain ⟨h1, h2⟩ := (h k (by simp)).2 r hr
        exact ⟨by omega, fun x hx => ⟨(h2 x hx).1, by have := (h2 x hx).2; omega⟩⟩
      · obtain ⟨h1, h2⟩ := ih (fun x hx => h x (by simp [hx])) r hr
        exact ⟨by omega, fun x hx => ⟨(h2 x hx).1, by have := (h2 x hx).2; omega⟩⟩
  have hS : ∀ l : List E, (∀ k ∈ l, k.ok = true ∧ ∀ r ∈ k.pdy y, r.length ≤ k.cnt ∧ ∀ x ∈ r, x.ok = true ∧ x.cnt ≤ k.cnt) → ∀ r ∈ E.pdy.seqP y l, r.length ≤ (l.map E.cnt).sum ∧ ∀ x ∈ r, x.ok = true ∧ x.cnt ≤ (l.map E.cnt).sum := by
    intro l
    induction l with
    | nil => intro _ r hr; cases hr
    | cons k l ih =>
      intro h r hr
      simp only [E.pdy.seqP, List.mem_append, List.mem_map] at hr
      simp only [List.map_cons, List.sum_cons]
      rcases hr with ⟨s, hs, rfl⟩ | hr
      · obtain ⟨h1, h2⟩ := (h k (by simp)).2 s hs
        have h3 := hsum l
        refine ⟨by rw [List.length_append]; omega, fun x hx => ?_⟩
        rcases List.mem_append.1 hx with hx | hx
        · exact ⟨(h2 x hx).1, by have := (h2 x hx).2; omega⟩
        · exact ⟨(h x (by simp [hx])).1, by have := hmem l x hx; omega⟩
      · obtain ⟨h1, h2⟩ := ih (fun x hx => h x (by simp [hx])) r hr
        exact ⟨by omega, fun x hx => ⟨(h2 x hx).1, by have := (h2 x hx).2; omega⟩⟩
  have hH : ∀ l : List E, (∀ k ∈ l, k.ok = true ∧ ∀ r ∈ k.pdy y, r.length ≤ k.cnt ∧ ∀ x ∈ r, x.ok = true ∧ x.cnt ≤ k.cnt) → ∀ r ∈ E.pdy.headP y l, r.length ≤ (l.map E.cnt).sum ∧ ∀ x ∈ r, x.ok = true ∧ x.cnt ≤ (l.map E.cnt).sum := by
    intro l h r hr
    cases l with
    | nil => cases hr
    | cons k l =>
      obtain ⟨h1, h2⟩ := (h k (by simp)).2 r hr
      simp only [List.map_cons, List.sum_cons]
      exact ⟨by omega, fun x hx => ⟨(h2 x hx).1, by have := (h2 x hx).2; omega⟩⟩
  have hkk : ∀ k ∈ e.kids, k.ok = true ∧ ∀ r ∈ k.pdy y, r.length ≤ k.cnt ∧ ∀ x ∈ r, x.ok = true ∧ x.cnt ≤ k.cnt := fun k h => ⟨ok_kid hok h, hk k h⟩
  have hce := cnt_eq e
  intro r hr
  rw [pdy_eq] at hr
  by_cases h1 : e.op = 110
  · rw [if_pos h1] at hr
    split at hr
    · simp at hr; subst hr; exact ⟨by simp, fun k hk => by cases hk⟩
    · cases hr
  · rw [if_neg h1] at hr
    have fin : (r.length ≤ (e.kids.map E.cnt).sum ∧ ∀ x ∈ r, x.ok = true ∧ x.cnt ≤ (e.kids.map E.cnt).sum) → r.length ≤ e.cnt ∧ ∀ k ∈ r, k.ok = true ∧ k.cnt ≤ e.cnt :=
      fun ⟨a, b⟩ => ⟨by omega, fun x hx => ⟨(b x hx).1, by have := (b x hx).2; omega⟩⟩
    by_cases h2 : e.op = 97
    · rw [if_pos h2] at hr; exact fin (hA _ hkk r hr)
    · rw [if_neg h2] at hr
      by_cases h3 : e.op = 115
      · rw [if_pos h3] at hr; exact fin (hS _ hkk r hr)
      · rw [if_neg h3] at hr
        by_cases h4 : e.op = 63
        · rw [if_pos h4] at hr; exact fin (hH _ hkk r hr)
        · rw [if_neg h4] at hr
          obtain ⟨s, hs, rfl⟩ := List.mem_map.1 hr
          obtain ⟨a, b⟩ := hH _ hkk s hs
          have hag := again_ok hok (by rcases ok_cases hok with h | h | h | h | h | h <;> omega)
          refine ⟨by rw [List.length_append]; simp; omega, fun x hx => ?_⟩
          rcases List.mem_append.1 hx with hx | hx
          · exact ⟨(b x hx).1, by have := (b x hx).2; omega⟩
          · simp at hx; subst hx; exact ⟨hag.1, by omega⟩
termination_by SizeOf.sizeOf e
decreasing_by exact E.kids_lt hk
/-- What is formed means something. -/
theorem L_some (e : E) (hok : e.ok = true) : ∃ w, e.L w := by
  have hk : ∀ k ∈ e.kids, ∃ w, k.L w := fun k hk => L_some k (ok_kid hok hk)
  have hS : ∀ l : List E, (∀ k ∈ l, ∃ w, k.L w) → ∃ w, E.L.seqL l w := by
    intro l
    induction l with
    | nil => intro _; exact ⟨[], rfl⟩
    | cons k l ih =>
      intro h
      obtain ⟨u, hu⟩ := h k (by simp)
      obtain ⟨v, hv⟩ := ih fun x hx => h x (by simp [hx])
      exact ⟨u ++ v, u, v, rfl, hu, hv⟩
  rcases ok_cases hok with h | h | h | h | h | h
  · exact ⟨[e.name], by rw [L_one h]⟩
  · rcases E.ok_ops hok with ⟨g, _⟩ | ⟨g, _⟩ | ⟨_, _, g⟩ | ⟨g, _⟩
    · omega
    · omega
    · cases hl : e.kids with
      | nil => rw [hl] at g; simp at g
      | cons k l =>
        obtain ⟨w, hw⟩ := hk k (by rw [hl]; simp)
        exact ⟨w, by rw [L_alt h, hl]; exact .inl hw⟩
    · omega
  · obtain ⟨w, hw⟩ := hS _ hk
    exact ⟨w, by rw [L_seq h]; exact hw⟩
  · exact ⟨[], by rw [L_opt h]; exact .inl rfl⟩
  · exact ⟨[], by rw [L_rep (.inl h)]; exact .inl ⟨h, rfl⟩⟩
  · obtain ⟨k, hkk⟩ := ok_one hok (by omega)
    obtain ⟨w, hw⟩ := hk k (by rw [hkk]; simp)
    exact ⟨w, by rw [L_rep (.inr h), hkk]; exact .inr (.one hw)⟩
termination_by SizeOf.sizeOf e
decreasing_by exact E.kids_lt hk
theorem restL_some (r : Rest) (h : ∀ k ∈ r, k.ok = true) : ∃ w, restL r w := by
  induction r with
  | nil => exact ⟨[], rfl⟩
  | cons k r ih =>
    obtain ⟨u, hu⟩ := L_some k (h k (by simp))
    obtain ⟨v, hv⟩ := ih fun x hx => h x (by simp [hx])
    exact ⟨u ++ v, u, v, rfl, hu, hv⟩
theorem ok_small (e : E) (hok : e.ok = true) : e.small := by
  have hk : ∀ k ∈ e.kids, k.small := fun k hk => ok_small k (ok_kid hok hk)
  have hn := ok_name hok
  obtain ⟨o, n, k⟩ := e
  exact E.small_mk (by simp only [E.name] at hn; omega) hk
termination_by SizeOf.sizeOf e
decreasing_by exact E.kids_lt hk
end Go.Proofs.D
/-
  THE READER: how often it may call itself.
-/
set_option linter.unusedVariables false
set_option linter.unusedSimpArgs false
namespace Go.Proofs.D
open Go Go.Abs
/-- What a reader leaves of a state. -/
structure Post (s t : St) : Prop where
  size : t.left.size ≤ s.left.size
  many : s.many ≤ t.many
  good : t.bad = false → t.many ≤ 48
theorem Post.trans {a b c : St} (h : Post a b) (k : Post b c) : Post a c := ⟨Nat.le_trans k.size h.size, Int.le_trans h.many k.many, k.good⟩
theorem cutPre_le (s p : ByteArray) : (cutPre s p).size ≤ s.size := by
  unfold cutPre
  split
  · simp [ByteArray.size_extract]
  · exact Nat.le_refl _
theorem Post.cut {a b : St} (h : Post a b) (sign : ByteArray) : Post a (b.cut sign) := ⟨Nat.le_trans (cutPre_le _ _) h.size, h.many, h.good⟩
/-- A state in which k more items may be read. -/
structure Ready (k : Nat) (s : St) : Prop where
  bad : s.bad = false
  many : 0 ≤ s.many
  few : s.many ≤ 48
  fuel : 49 ≤ s.many + k
  size : s.left.size ≤ 1000000000
theorem Ready.post {k : Nat} {s t : St} (h : Ready k s) (p : Post s t) (hb : t.bad = false) : Ready k t := ⟨hb, by have := p.many; have := h.many; omega, p.good hb, by have := p.many; have := h.fuel; omega, Nat.le_trans p.size h.size⟩
theorem Ready.refl {k : Nat} {s : St} (h : Ready k s) : Post s s := ⟨Nat.le_refl _, Int.le_refl _, fun _ => h.few⟩
theorem Ready.cut {k : Nat} {s : St} (h : Ready k s) (sign : ByteArray) : Ready k (s.cut sign) := h.post (h.refl.cut sign) h.bad
theorem rounds_post {read : St → E × St} {k : Nat} (hp : ∀ s, Ready k s → Post s (read s).2) (sign : ByteArray) : ∀ (n : Nat) (l : List E) (s0 s : St), Ready k s0 → Post s0 s → Post s0 (rounds read sign n l s).2
  | 0, l, s0, s, h0, h => h
  | n + 1, l, s0, s, h0, h => by
    simp only [rounds]
    split
    · exact h
    · rename_i hb
      have hr := (h0.post h (by simpa using hb)).cut sign
      split
      · exact rounds_post hp sign n _ s0 _ h0 ((h.cut sign).trans (hp _ hr))
      · exact h.cut sign
theorem several_post {read : St → E × St} {k : Nat} (hp : ∀ s, Ready k s → Post s (read s).2) (op : Int) (sign : ByteArray) (s : St) (h : Ready k s) : Post s (several read op sign s).2 := by
  unfold several
  exact rounds_post hp sign _ _ s _ h (hp s h)
theorem sfx_post (e : E) : ∀ (l : List Int) (s0 s : St), Post s0 s → Post s0 (sfx e l s).2
  | [], s0, s, h => h
  | o :: l, s0, s, h => by
    simp only [sfx]
    split
    · exact h.cut _
    · exact sfx_post e l s0 _ (h.cut _)
theorem baseF_post {tl : ByteArray → ByteArray} (htl : ∀ s, (tl s).size ≤ s.size) {alt : St → E × St} {k : Nat} (ha : ∀ s, Ready k s → Post s (alt s).2) (s : St) (h : Ready k s) : Post s (baseF tl alt s).2 := by
  unfold baseF
  split
  · exact h.refl.cut _
  · dsimp only
    split
    · have hr := (h.cut ⟨#[40, 41]⟩).cut ⟨#[40]⟩
      have hp := ha _ hr
      have h1 := (h.refl.cut ⟨#[40, 41]⟩).cut ⟨#[40]⟩
      have h2 := h1.trans hp
      refine ⟨Nat.le_trans (cutPre_le _ _) h2.size, h2.many, fun hb => h2.good ?_⟩
      simp at hb
      exact hb.2
    · have h1 := (h.refl.cut ⟨#[40, 41]⟩).cut ⟨#[40]⟩
      exact ⟨Nat.le_trans (htl _) h1.size, h1.many, h1.good⟩
def itemN (tl : ByteArray → ByteArray) : Nat → St → E × St
  | 0, s => (E.none, s)
  | k + 1, s => itemF tl (several (several (itemN tl k) 115 ⟨#[32]⟩) 97 ⟨#[124]⟩) s
theorem itemN_post {tl : ByteArray → ByteArray} (htl : ∀ s, (tl s).size ≤ s.size) : ∀ (k : Nat) (s : St), Ready k s → Post s (itemN tl k s).2
  | 0, s, h => by have := h.fuel; have := h.few; omega
  | k + 1, s, h => by
    simp only [itemN, itemF]
    have hw := wr64 (s.many + 1) (by have := h.many; have := h.few; omega)
    split
    · exact ⟨Nat.le_refl _, by simp only [hw]; omega, fun hb => by cases hb⟩
    · rename_i h48
      rw [hw] at h48 ⊢
      have hr : Ready k { s with many := s.many + 1 } := ⟨h.bad, by have := h.many; simp; omega, by simp; omega, by have := h.fuel; simp; omega, h.size⟩
      have hb := baseF_post htl (fun q hq => several_post (fun q hq => several_post (itemN_post htl k) 115 ⟨#[32]⟩ q hq) 97 ⟨#[124]⟩ q hq) _ hr
      have h0 : Post s { s with many := s.many + 1 } := ⟨Nat.le_refl _, by simp; omega, fun _ => by simp; omega⟩
      exact sfx_post _ _ s _ (h0.trans hb)
theorem readers (Gl : Granted) (tl : ByteArray → ByteArray) (h99 : ∀ s, Fun Tryz.prog Gl 190 [vS s, vS lowS] [] (vS (tl s)) []) (htl : ∀ s, (tl s).size ≤ s.size) : ∀ (k : Nat) (s : St), Ready k s →
    Fun Tryz.prog Gl 158 [.ptr (.arg 0) 0] [some s.b] (itemN tl k s).1.av [some (itemN tl k s).2.b]
  | 0, s, h => by have := h.fuel; have := h.few; omega
  | k + 1, s, h => by
    have hw := wr64 (s.many + 1) (by have := h.many; have := h.few; omega)
    have hseq : ∀ q, Ready k q → Fun Tryz.prog Gl 126 [.ptr (.arg 0) 0] [some q.b] (several (itemN tl k) 115 ⟨#[32]⟩ q).1.av [some (several (itemN tl k) 115 ⟨#[32]⟩ q).2.b] := fun q hq =>
      f54 Gl (itemN tl k) (Ready k) (readers Gl tl h99 htl k) (fun q hq => (itemN_post htl k q hq).size) (fun q hq hb => hq.post (itemN_post htl k q hq) hb) (fun q sign hq _ => hq.cut sign) q hq hq.size
    have hp : ∀ q, Ready k q → Post q (several (itemN tl k) 115 ⟨#[32]⟩ q).2 := fun q hq => several_post (itemN_post htl k) 115 ⟨#[32]⟩ q hq
    exact f82 Gl tl h99 htl (several (several (itemN tl k) 115 ⟨#[32]⟩) 97 ⟨#[124]⟩) s h.size fun r hm hb hsz h48 => by
      have hr : Ready k r := ⟨by rw [hb]; exact h.bad, by rw [← hm, hw]; have := h.many; omega, by omega, by rw [← hm, hw]; have := h.fuel; simp at this; omega, Nat.le_trans hsz h.size⟩
      exact f28 Gl _ (Ready k) hseq (fun q hq => (hp q hq).size) (fun q hq hb => hq.post (hp q hq) hb) (fun q sign hq _ => hq.cut sign) r hr hr.size
/-- alt, from the start. -/
def altN (tl : ByteArray → ByteArray) (s : St) : E × St := several (several (itemN tl 49) 115 ⟨#[32]⟩) 97 ⟨#[124]⟩ s
theorem f28_start (Gl : Granted) (tl : ByteArray → ByteArray) (h99 : ∀ s, Fun Tryz.prog Gl 190 [vS s, vS lowS] [] (vS (tl s)) []) (htl : ∀ s, (tl s).size ≤ s.size) (s : St) (h : Ready 49 s) :
    Fun Tryz.prog Gl 85 [.ptr (.arg 0) 0] [some s.b] (altN tl s).1.av [some (altN tl s).2.b] := by
  have hseq : ∀ q, Ready 49 q → Fun Tryz.prog Gl 126 [.ptr (.arg 0) 0] [some q.b] (several (itemN tl 49) 115 ⟨#[32]⟩ q).1.av [some (several (itemN tl 49) 115 ⟨#[32]⟩ q).2.b] := fun q hq =>
    f54 Gl (itemN tl 49) (Ready 49) (readers Gl tl h99 htl 49) (fun q hq => (itemN_post htl 49 q hq).size) (fun q hq hb => hq.post (itemN_post htl 49 q hq) hb) (fun q sign hq _ => hq.cut sign) q hq hq.size
  have hp : ∀ q, Ready 49 q → Post q (several (itemN tl 49) 115 ⟨#[32]⟩ q).2 := fun q hq => several_post (itemN_post htl 49) 115 ⟨#[32]⟩ q hq
  exact f28 Gl _ (Ready 49) hseq (fun q hq => (hp q hq).size) (fun q hq hb => hq.post (hp q hq) hb) (fun q sign hq _ => hq.cut sign) s h h.size
end Go.Proofs.D
/-
  WHAT IS MET, ONE BEHIND THE OTHER: a row of things, each asked for the next ones; told apart by a key.
-/
set_option linter.unusedVariables false
set_option linter.unusedSimpArgs false
namespace Go.Proofs.D
open Go Go.Abs
section
variable {κ : Type} [DecidableEq κ]
/-- Where one stands first. -/
def ixK (k : κ) : List κ → Nat
  | [] => 0
  | x :: l => if x = k then 0 else ixK k l + 1
theorem ixK_mem {k : κ} : ∀ {l : List κ}, k ∈ l → l[ixK k l]? = some k
  | [], h => by cases h
  | x :: l, h => by
    simp only [ixK]
    split
    · rename_i e; simp [e]
    · rename_i e
      rcases List.mem_cons.1 h with h | h
      · exact absurd h.symm e
      · simpa using ixK_mem h
theorem ixK_lt {k : κ} {l : List κ} (h : k ∈ l) : ixK k l < l.length := (List.getElem?_eq_some_iff.1 (ixK_mem h)).1
theorem ixK_le (k : κ) : ∀ l : List κ, ixK k l ≤ l.length
  | [] => Nat.le_refl _
  | x :: l => by have := ixK_le k l; simp only [ixK]; split <;> simp <;> omega
theorem ixK_not {k : κ} : ∀ {l : List κ}, k ∉ l → ixK k l = l.length
  | [], _ => rfl
  | x :: l, h => by
    simp only [List.mem_cons, not_or] at h
    simp only [ixK, if_neg (fun e => h.1 (Eq.symm e)), ixK_not h.2, List.length_cons]
theorem ixK_app {k : κ} : ∀ {l : List κ} (m : List κ), k ∈ l → ixK k (l ++ m) = ixK k l
  | [], _, h => by cases h
  | x :: l, m, h => by
    simp only [List.cons_append, ixK]
    split
    · rfl
    · rename_i e
      rcases List.mem_cons.1 h with h | h
      · exact absurd h.symm e
      · rw [ixK_app m h]
end
theorem nodup_sub_len {α : Type} : ∀ (l m : List α), l.Nodup → (∀ x ∈ l, x ∈ m) → l.length ≤ m.length
  | [], m, _, _ => by simp
  | x :: l, m, h, hs => by
    obtain ⟨h1, h2⟩ := List.nodup_cons.1 h
    obtain ⟨a, b, rfl⟩ := List.append_of_mem (hs x (by simp))
    have := nodup_sub_len l (a ++ b) h2 fun y hy => by
      have hm := hs y (by simp [hy])
      have hne : y ≠ x := fun e => h1 (e ▸ hy)
      simp at hm ⊢
      rcases hm with h | h | h
      · exact .inl h
      · exact absurd h hne
      · exact .inr h
    simp at this ⊢
    omega
theorem nodup_map {α β : Type} (f : α → β) : ∀ (l : List α), l.Nodup → (∀ x ∈ l, ∀ y ∈ l, f x = f y → x = y) → (l.map f).Nodup
  | [], _, _ => by simp
  | x :: l, h, hf => by
    obtain ⟨h1, h2⟩ := List.nodup_cons.1 h
    rw [List.map_cons, List.nodup_cons]
    refine ⟨fun hm => ?_, nodup_map f l h2 fun a ha b hb => hf a (by simp [ha]) b (by simp [hb])⟩
    obtain ⟨y, hy, e⟩ := List.mem_map.1 hm
    exact h1 (hf y (by simp [hy]) x (by simp) e ▸ hy)
/-- Are numbers met in order? -/
def rowOrd : Int → List Int → Option Int
  | m, [] => some m
  | m, t :: l => if t ≤ m + 1 ∧ -1 ≤ t then rowOrd (max m t) l else none
def tabOrd : Nat → Int → List (List Int) → Option Int
  | _, m, [] => some m
  | i, m, r :: l => if (i : Int) ≤ m then (rowOrd m r).bind fun m' => tabOrd (i + 1) m' l else none
theorem tabOrd_snoc (r : List Int) : ∀ (l : List (List Int)) (i : Nat) (m : Int), tabOrd i m (l ++ [r]) = (tabOrd i m l).bind fun m' => if ((i + l.length : Nat) : Int) ≤ m' then rowOrd m' r else none
  | [], i, m => by simp only [List.nil_append, tabOrd, List.length_nil, Nat.add_zero, Option.bind_some]; cases rowOrd m r <;> rfl
  | x :: l, i, m => by
    simp only [List.cons_append, tabOrd]
    split
    · cases rowOrd m x with
      | none => rfl
      | some m' =>
        simp only [Option.bind_some]
        rw [tabOrd_snoc r l (i + 1) m']
        have : i + 1 + l.length = i + (x :: l).length := by simp; omega
        rw [this]
    · rfl
section
variable {σ κ : Type} (key : σ → κ)
/-- What a number says. -/
def Says (all : List σ) (o : Option σ) (t : Int) : Prop := match o with
  | none => t = -1
  | some s => ∃ n : Nat, t = n ∧ (all.map key)[n]? = some (key s)
theorem Says.app {all m : List σ} {o : Option σ} {t : Int} (h : Says key all o t) : Says key (all ++ m) o t := by
  cases o with
  | none => exact h
  | some s =>
    obtain ⟨n, e, hn⟩ := h
    have hl := (List.getElem?_eq_some_iff.1 hn).1
    exact ⟨n, e, by rw [List.map_append, List.getElem?_append_left hl]; exact hn⟩
section
variable (f : σ → List (Option σ)) (s0 : σ)
structure Met (i : Nat) (all : List σ) (rows : List (List Int)) : Prop where
  first : all[0]? = some s0
  nodup : (all.map key).Nodup
  many : (rows.length = i ∧ i ≤ all.length) ∨ (rows.length = all.length ∧ all.length ≤ i)
  row : ∀ (k : Nat) (s : σ) (r : List Int), all[k]? = some s → rows[k]? = some r → r.length = (f s).length ∧ ∀ (j : Nat) (o : Option σ) (t : Int), (f s)[j]? = some o → r[j]? = some t → Says key all o t
  ord : tabOrd 0 0 rows = some ((all.length : Int) - 1)
  from' : ∀ s ∈ all, s = s0 ∨ ∃ p ∈ all, some s ∈ f p
theorem met_pos {i : Nat} {all : List σ} {rows : List (List Int)} (h : Met key f s0 i all rows) : 0 < all.length := (List.getElem?_eq_some_iff.1 h.first).1
end
variable [DecidableEq κ]
def rowK : List σ → List (Option σ) → List σ × List Int
  | all, [] => (all, [])
  | all, none :: l => ((rowK all l).1, -1 :: (rowK all l).2)
  | all, some s :: l => if key s ∈ all.map key then ((rowK all l).1, (ixK (key s) (all.map key) : Int) :: (rowK all l).2) else ((rowK (all ++ [s]) l).1, (all.length : Int) :: (rowK (all ++ [s]) l).2)
theorem rowK_spec : ∀ (l : List (Option σ)) (all : List σ), (all.map key).Nodup → ∃ m, (rowK key all l).1 = all ++ m ∧ ((rowK key all l).1.map key).Nodup ∧ (∀ s ∈ m, some s ∈ l) ∧ (rowK key all l).2.length = l.length ∧
    (∀ (j : Nat) (o : Option σ) (t : Int), l[j]? = some o → (rowK key all l).2[j]? = some t → Says key (rowK key all l).1 o t) ∧ rowOrd (all.length - 1) (rowK key all l).2 = some (((rowK key all l).1.length : Int) - 1)
  | [], all, h => ⟨[], by simp [rowK], by simpa [rowK] using h, by simp, rfl, fun j o t h => by simp at h, by simp [rowK, rowOrd]⟩
  | none :: l, all, h => by
    obtain ⟨m, h1, h2, h3, h4, h5, h6⟩ := rowK_spec l all h
    refine ⟨m, h1, h2, fun s hs => by simp [h3 s hs], by simp [rowK, h4], fun j o t hj ht => ?_, ?_⟩
    · cases j with
      | zero => simp [rowK] at hj ht; subst hj ht; exact rfl
      | succ j => simp [rowK] at hj ht; exact h5 j o t hj ht
    · simp only [rowK, rowOrd]
      rw [if_pos ⟨by omega, by omega⟩, show max ((all.length : Int) - 1) (-1) = all.length - 1 by omega]
      exact h6
  | some s :: l, all, h => by
    by_cases hm : key s ∈ all.map key
    · obtain ⟨m, h1, h2, h3, h4, h5, h6⟩ := rowK_spec l all h
      have hix := ixK_mem hm
      have hil : ixK (key s) (all.map key) < all.length := by have := ixK_lt hm; simpa using this
      have e : rowK key all (some s :: l) = ((rowK key all l).1, (ixK (key s) (all.map key) : Int) :: (rowK key all l).2) := by simp only [rowK, if_pos hm]
      rw [e]
      refine ⟨m, h1, h2, fun s hs => by simp [h3 s hs], by simp [h4], fun j o t hj ht => ?_, ?_⟩
      · cases j with
        | zero =>
          simp at hj ht
          subst hj ht
          rw [h1]
          exact Says.app key ⟨_, rfl, hix⟩
        | succ j => simp at hj ht; exact h5 j o t hj ht
      · simp only [rowOrd]
        rw [if_pos ⟨by omega, by omega⟩, show max ((all.length : Int) - 1) (ixK (key s) (all.map key)) = all.length - 1 by omega]
        exact h6
    · have hnd : ((all ++ [s]).map key).Nodup := by
        rw [List.map_append, List.map_cons, List.map_nil]
        refine List.nodup_append.2 ⟨h, by simp, fun a ha b hb => ?_⟩
        simp at hb
        subst hb
        exact fun e => hm (e ▸ ha)
      obtain ⟨m, h1, h2, h3, h4, h5, h6⟩ := rowK_spec l (all ++ [s]) hnd
      have e : rowK key all (some s :: l) = ((rowK key (all ++ [s]) l).1, (all.length : Int) :: (rowK key (all ++ [s]) l).2) := by simp only [rowK, if_neg hm]
      rw [e]
      refine ⟨s :: m, by rw [h1]; simp, h2, fun x hx => ?_, by simp [h4], fun j o t hj ht => ?_, ?_⟩
      · rcases List.mem_cons.1 hx with rfl | hx
        · simp
        · simp [h3 x hx]
      · cases j with
        | zero =>
          simp at hj ht
          subst hj ht
          rw [h1]
          exact Says.app key ⟨_, rfl, by simp⟩
        | succ j => simp at hj ht; exact h5 j o t hj ht
      · simp only [rowOrd]
        rw [if_pos ⟨by omega, by omega⟩, show max ((all.length : Int) - 1) all.length = ((all ++ [s]).length : Int) - 1 by simp; omega]
        exact h6
variable (f : σ → List (Option σ)) (s0 : σ)
/-- What is met, and the rows of numbers, behind i turns. -/
def met : Nat → List σ × List (List Int)
  | 0 => ([s0], [])
  | i + 1 => match (met i).1[i]? with
    | none => met i
    | some s => ((rowK key (met i).1 (f s)).1, (met i).2 ++ [(rowK key (met i).1 (f s)).2])
theorem met_step {i : Nat} {all : List σ} {rows : List (List Int)} (h : Met key f s0 i all rows) {s : σ} (hs : all[i]? = some s) : Met key f s0 (i + 1) (rowK key all (f s)).1 (rows ++ [(rowK key all (f s)).2]) := by
  have h0 := met_pos key f s0 h
  have hil := (List.getElem?_eq_some_iff.1 hs).1
  have hri : rows.length = i := by rcases h.many with h | h <;> omega
  obtain ⟨m, h1, h2, h3, h4, h5, h6⟩ := rowK_spec key (f s) all h.nodup
  have hsm : s ∈ all := List.mem_of_getElem? hs
  refine { first := ?_, nodup := h2, many := .inl ⟨by simp [hri], ?_⟩, row := fun k x r hk hr => ?_, ord := ?_, from' := fun x hx => ?_ }
  · rw [h1, List.getElem?_append_left h0]; exact h.first
  · rw [h1, List.length_append]; omega
  · by_cases hki : k < i
    · have hka : k < all.length := by omega
      rw [h1, List.getElem?_append_left hka] at hk
      rw [List.getElem?_append_left (by omega)] at hr
      obtain ⟨a, b⟩ := h.row k x r hk hr
      refine ⟨a, fun j o t hj ht => ?_⟩
      rw [h1]
      exact Says.app key (b j o t hj ht)
    · have hk2 : k = i := by
        have := (List.getElem?_eq_some_iff.1 hr).1
        simp at this
        omega
      subst hk2
      rw [h1, List.getElem?_append_left hil, hs] at hk
      rw [List.getElem?_append_right (by omega), hri] at hr
      simp at hk hr
      subst hk hr
      exact ⟨h4, h5⟩
  · rw [tabOrd_snoc, h.ord]
    simp only [Option.bind_some]
    rw [if_pos (by omega)]
    exact h6
  · rw [h1] at hx
    rcases List.mem_append.1 hx with hx | hx
    · rcases h.from' x hx with e | ⟨p, hp, hpx⟩
      · exact .inl e
      · exact .inr ⟨p, by rw [h1]; simp [hp], hpx⟩
    · exact .inr ⟨s, by rw [h1]; simp [hsm], h3 x hx⟩
theorem met_is (i : Nat) : Met key f s0 i (met key f s0 i).1 (met key f s0 i).2 := by
  induction i with
  | zero => exact ⟨rfl, by simp [met], .inl ⟨rfl, by simp [met]⟩, fun k s r _ h => by simp [met] at h, by simp [met, tabOrd], fun s hs => .inl (by simpa [met] using hs)⟩
  | succ i ih =>
    simp only [met]
    cases hs : (met key f s0 i).1[i]? with
    | none =>
      have := List.getElem?_eq_none_iff.1 hs
      simp only
      exact { ih with many := .inr ⟨by rcases ih.many with h | h <;> omega, by omega⟩ }
    | some s => exact met_step key f s0 ih hs
theorem met_end (i : Nat) (h : (met key f s0 i).1.length ≤ i) (k : Nat) : met key f s0 (i + k) = met key f s0 i := by
  induction k with
  | zero => rfl
  | succ k ih =>
    show met key f s0 (i + k + 1) = _
    simp only [met]
    rw [ih, List.getElem?_eq_none (by omega)]
/-- All that is met is good, if what is met first is, and what is asked for behind it. -/
theorem met_all (P : σ → Prop) (h0 : P s0) (hf : ∀ s, P s → ∀ t, some t ∈ f s → P t) (i : Nat) : ∀ s ∈ (met key f s0 i).1, P s := by
  induction i with
  | zero => simp [met, h0]
  | succ i ih =>
    simp only [met]
    cases hs : (met key f s0 i).1[i]? with
    | none => exact ih
    | some s =>
      have hi := met_is key f s0 i
      obtain ⟨m, h1, _, h3, _⟩ := rowK_spec key (f s) _ hi.nodup
      simp only
      rw [h1]
      intro x hx
      rcases List.mem_append.1 hx with hx | hx
      · exact ih x hx
      · exact hf s (ih s (List.mem_of_getElem? hs)) x (h3 x hx)
end
end Go.Proofs.D
