/-
  THE NAMES of an expression are those in it, once each, in order.
-/
import Derived.Test.YtonomogpephfkaaDoorD29
import Derived.Test.YtonomogpephfkaaDoorL2
import Derived.Sort.Walk0
set_option linter.unusedVariables false
set_option linter.unusedSimpArgs false
namespace Go.Proofs.D
open Go Go.Abs Go.Sort Go.Maps
def E.occ : E → ByteArray → Prop
  | .mk op name kids => fun s => if op = 110 then s = name else go kids s
where go : List E → ByteArray → Prop
  | [] => fun _ => False
  | k :: l => fun s => k.occ s ∨ go l s
theorem occ_go (l : List E) (s : ByteArray) : E.occ.go l s ↔ ∃ k ∈ l, k.occ s := by
  induction l with
  | nil => simp [E.occ.go]
  | cons x l ih => simp [E.occ.go, ih]
theorem occ_eq (e : E) (s : ByteArray) : e.occ s ↔ if e.op = 110 then s = e.name else ∃ k ∈ e.kids, k.occ s := by
  obtain ⟨o, n, k⟩ := e
  by_cases h : o = 110
  · simp [E.occ, E.op, E.name, E.kids, h]
  · simp [E.occ, E.op, E.name, E.kids, h, occ_go]
theorem keyS_inj {s t : ByteArray} (h : keyS s = keyS t) : s = t := by
  obtain ⟨⟨l⟩⟩ := s
  obtain ⟨⟨m⟩⟩ := t
  simp [keyS] at h
  rw [h]
theorem bump_has {D : DataW Unit} (h : IsMap D) (s : ByteArray) (k : Lit) : has (bump D s) k = true ↔ has D k = true ∨ k = keyS s := by
  by_cases hk : k = keyS s
  · subst hk
    rw [bump, has_put_same h (key_str s)]
    simp
  · rw [bump, has_put_other hk]
    simp [hk]
theorem tally_has (e : E) (D : DataW Unit) (N : Nat) (h : Tal D N) (k : Lit) : has (e.tally D) k = true ↔ has D k = true ∨ ∃ s, k = keyS s ∧ e.occ s := by
  rw [tally_eq]
  by_cases h1 : e.op = 110
  · rw [if_pos h1, bump_has h.tidy.isMap]
    refine or_congr Iff.rfl ?_
    constructor
    · intro hk; exact ⟨e.name, hk, (occ_eq e _).2 (by rw [if_pos h1])⟩
    · rintro ⟨s, rfl, hs⟩
      have := (occ_eq e s).1 hs
      rw [if_pos h1] at this
      rw [this]
  · rw [if_neg h1]
    have key : ∀ l : List E, (∀ x ∈ l, x ∈ e.kids) → ∀ D N, Tal D N → (has (E.tally.go l D) k = true ↔ has D k = true ∨ ∃ s, k = keyS s ∧ ∃ x ∈ l, x.occ s) := by
      intro l
      induction l with
      | nil => intro _ D N _; simp [E.tally.go]
      | cons x l ih =>
        intro hl D N hD
        simp only [E.tally.go]
        rw [ih (fun y hy => hl y (by simp [hy])) _ _ (tal_tally x D N hD), tally_has x D N hD]
        constructor
        · rintro ((h | ⟨s, a, b⟩) | ⟨s, a, y, b, c⟩)
          · exact .inl h
          · exact .inr ⟨s, a, x, by simp, b⟩
          · exact .inr ⟨s, a, y, by simp [b], c⟩
        · rintro (h | ⟨s, a, y, b, c⟩)
          · exact .inl (.inl h)
          · rcases List.mem_cons.1 b with rfl | b
            · exact .inl (.inr ⟨s, a, c⟩)
            · exact .inr ⟨s, a, y, b, c⟩
    rw [key e.kids (fun _ h => h) D N h]
    refine or_congr Iff.rfl ?_
    refine exists_congr fun s => and_congr Iff.rfl ?_
    rw [occ_eq, if_neg h1]
termination_by SizeOf.sizeOf e
decreasing_by exact E.kids_lt (hl x (by simp))
def isStr : Lit → Bool
  | .string _ => true
  | _ => false
def AllStr : DataW Unit → Bool
  | .map es => !es.any fun p => !isStr p.1
  | _ => true
theorem allStr_put {D : DataW Unit} (h : AllStr D = true) (s : ByteArray) (d : DataW Unit) : AllStr (D.put (keyS s) d) = true := by
  cases D <;> try exact h
  rename_i es
  show (!((DataW.insert (keyS s, d) (es.filter fun p => !p.1.sameKey (keyS s))).any fun p => !isStr p.1)) = true
  simp only [AllStr, Bool.not_eq_true'] at h ⊢
  rw [any_insert]
  simp only [isStr, Bool.not_true, Bool.false_or]
  rw [List.any_eq_false] at h ⊢
  intro p hp
  exact h p (List.mem_filter.1 hp).1
theorem allStr_tally (e : E) (D : DataW Unit) (h : AllStr D = true) : AllStr (e.tally D) = true := by
  rw [tally_eq]
  split
  · exact allStr_put h _ _
  · have key : ∀ l : List E, (∀ x ∈ l, x ∈ e.kids) → ∀ D, AllStr D = true → AllStr (E.tally.go l D) = true := by
      intro l
      induction l with
      | nil => intro _ D h; exact h
      | cons x l ih =>
        intro hl D h
        simp only [E.tally.go]
        exact ih (fun y hy => hl y (by simp [hy])) _ (allStr_tally x D h)
    exact key e.kids (fun _ h => h) D h
termination_by SizeOf.sizeOf e
decreasing_by exact E.kids_lt (hl x (by simp))
/-- Of a datum of names: its keys. -/
theorem keys_mem {D : DataW Unit} (hT : Tidy D) (hA : AllStr D = true) (l : List UInt8) : l ∈ strKeys D ↔ has D (.string l) = true := by
  obtain ⟨es, rfl, _⟩ := hT
  simp only [AllStr, Bool.not_eq_true', List.any_eq_false] at hA
  simp only [strKeys, List.mem_map, has, List.any_eq_true]
  constructor
  · rintro ⟨p, hp, rfl⟩
    refine ⟨p, hp, ?_⟩
    have := hA p hp
    obtain ⟨q, d⟩ := p
    cases q <;> simp [isStr] at this
    simp [strOf, Lit.sameKey]
  · rintro ⟨p, hp, hk⟩
    exact ⟨p, hp, by rw [WideAt.sameKey_eq hk]; rfl⟩
theorem keys_nodup {D : DataW Unit} (hT : Tidy D) (hA : AllStr D = true) : (strKeys D).Nodup := by
  obtain ⟨es, rfl, hp⟩ := hT
  simp only [AllStr, Bool.not_eq_true', List.any_eq_false] at hA
  simp only [strKeys, List.Nodup, List.pairwise_map]
  refine hp.imp_of_mem fun {a b} ha hb hne heq => hne ?_
  have h1 := hA a ha
  have h2 := hA b hb
  obtain ⟨q, d⟩ := a
  obtain ⟨q', d'⟩ := b
  cases q <;> simp [isStr] at h1
  cases q' <;> simp [isStr] at h2
  simp [strOf] at heq
  rw [heq]
theorem names_mem (e : E) (s : ByteArray) : s ∈ e.names ↔ e.occ s := by
  have hT := tal_tally e (.map []) 0 tal_empty
  have hA := allStr_tally e (.map []) rfl
  simp only [E.names, sortedNames, List.mem_map, List.mem_mergeSort]
  constructor
  · rintro ⟨l, hl, rfl⟩
    rw [keys_mem hT.tidy hA] at hl
    rcases (tally_has e (.map []) 0 tal_empty _).1 hl with h | ⟨s, h1, h2⟩
    · simp [has] at h
    · have : s = ⟨l.toArray⟩ := keyS_inj (by rw [← h1])
      exact this ▸ h2
  · intro h
    refine ⟨s.data.toList, ?_, by simp⟩
    rw [keys_mem hT.tidy hA]
    exact (tally_has e (.map []) 0 tal_empty _).2 (.inr ⟨s, rfl, h⟩)
theorem names_rise (e : E) : (e.names.map fun s => s.data.toList).Pairwise (fun a b => a < b) := by
  have hT := tal_tally e (.map []) 0 tal_empty
  have hA := allStr_tally e (.map []) rfl
  have h1 := List.pairwise_mergeSort leL_trans leL_total (strKeys (e.tally (.map [])))
  have h2 : ((strKeys (e.tally (.map []))).mergeSort fun x y => decide (x ≤ y)).Nodup := (List.mergeSort_perm _ _).nodup_iff.2 (keys_nodup hT.tidy hA)
  have h3 : (e.names.map fun s => s.data.toList) = (strKeys (e.tally (.map []))).mergeSort fun x y => decide (x ≤ y) := by
    simp only [E.names, sortedNames, List.map_map]
    have : ((fun s : ByteArray => s.data.toList) ∘ fun l : List UInt8 => (⟨l.toArray⟩ : ByteArray)) = id := by funext l; simp
    rw [this, List.map_id]
  rw [h3]
  exact (h1.and h2).imp fun {a b} ⟨p, q⟩ => by
    simp only [decide_eq_true_eq] at p
    exact (List.le_iff_lt_or_eq.1 p).resolve_right q
end Go.Proofs.D
/-
  WHAT AN EXPRESSION MEANS, by its names.
-/
set_option linter.unusedVariables false
set_option linter.unusedSimpArgs false
namespace Go.Proofs.D
open Go Go.Abs
theorem L_occ (e : E) (hok : e.ok = true) (w : Row) (h : e.L w) : ∀ x ∈ w, e.occ x := by
  have IH : ∀ k ∈ e.kids, ¬ e.op = 110 → ∀ v : Row, k.L v → ∀ x ∈ v, e.occ x := fun k hk hop v hv x hx => by
    rw [occ_eq, if_neg hop]
    exact ⟨k, hk, L_occ k (E.ok_kids hok hop k hk).1 v hv x hx⟩
  have hmany : ∀ (p : Row → Prop), (∀ v, p v → ∀ x ∈ v, e.occ x) → ∀ v, Many p v → ∀ x ∈ v, e.occ x := by
    intro p hp v hv
    induction hv with
    | one h => exact hp _ h
    | more h _ ih =>
      intro x hx
      rcases List.mem_append.1 hx with hx | hx
      · exact hp _ h x hx
      · exact ih x hx
  rw [L_eq] at h
  rcases E.ok_ops hok with ⟨h1, _⟩ | ⟨h1, _, _⟩ | ⟨h1, _, _⟩ | ⟨h1, _, k, h2, _⟩
  · rw [if_pos h1] at h
    intro x hx
    rw [h] at hx
    simp at hx
    rw [occ_eq, if_pos h1]
    exact hx
  · rw [if_neg (by omega), if_pos h1] at h
    have key : ∀ l : List E, (∀ k ∈ l, k ∈ e.kids) → ∀ v, E.L.seqL l v → ∀ x ∈ v, e.occ x := by
      intro l
      induction l with
      | nil => intro _ v hv x hx; simp only [E.L.seqL] at hv; rw [hv] at hx; cases hx
      | cons y l ih =>
        intro hl v hv x hx
        simp only [E.L.seqL] at hv
        obtain ⟨u, t, rfl, h1', h2'⟩ := hv
        rcases List.mem_append.1 hx with hx | hx
        · exact IH y (hl y (by simp)) (by omega) u h1' x hx
        · exact ih (fun k hk => hl k (by simp [hk])) t h2' x hx
    exact key e.kids (fun _ h => h) w h
  · rw [if_neg (by omega), if_neg (by omega), if_pos h1] at h
    have key : ∀ l : List E, (∀ k ∈ l, k ∈ e.kids) → E.L.altL l w → ∀ x ∈ w, e.occ x := by
      intro l
      induction l with
      | nil => intro _ hv; exact hv.elim
      | cons y l ih =>
        intro hl hv x hx
        simp only [E.L.altL] at hv
        rcases hv with hv | hv
        · exact IH y (hl y (by simp)) (by omega) w hv x hx
        · exact ih (fun k hk => hl k (by simp [hk])) hv x hx
    exact key e.kids (fun _ h => h) h
  · rw [if_neg (by omega), if_neg (by omega), if_neg (by omega), h2] at h
    have hk : ∀ v, E.L.headL [k] v → ∀ x ∈ v, e.occ x := fun v hv => IH k (by rw [h2]; simp) (by omega) v hv
    split at h
    · rcases h with rfl | h
      · simp
      · exact hk w h
    · rcases h with ⟨_, rfl⟩ | h
      · simp
      · exact hmany _ hk w h
termination_by SizeOf.sizeOf e
decreasing_by exact E.kids_lt hk
theorem has_occ {e : E} {w : Row} (h : e.has w = true) : e.right = true ∧ ∀ x ∈ w, x ∈ e.names := by
  cases hr : e.right with
  | false => rw [has_not hr] at h; cases h
  | true =>
    have hok : e.ok = true := by simp [E.right] at hr; exact hr.2
    exact ⟨rfl, fun x hx => (names_mem e x).2 (L_occ e hok w ((has_iff hr w).1 h) x hx)⟩
theorem names_next (e : E) (j : Nat) (h : j + 1 < e.names.length) : (Op.bytesLess (e.names[j + 1]).toList (e.names[j]).toList) = false ∧ ¬ e.names[j + 1] = e.names[j] := by
  have h1 := List.pairwise_iff_getElem.1 (names_rise e) j (j + 1) (by simpa using Nat.lt_of_succ_lt h) (by simpa using h) (by omega)
  simp only [List.getElem_map] at h1
  constructor
  · rw [Go.Proofs.bytesLess_eq]
    simp only [decide_eq_false_iff_not]
    intro h2
    rw [ByteArray.toList_eq, ByteArray.toList_eq] at h2
    exact absurd h1 (List.lt_asymm h2)
  · intro he
    rw [he] at h1
    exact List.lt_irrefl _ h1
end Go.Proofs.D
