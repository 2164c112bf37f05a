/-
  WHAT A RENAMED EXPRESSION MEANS.
-/
import Derived.Test.YtonomogpephfkaaDoorL8
import Derived.Test.YtonomogpephfkaaDoorD10
set_option linter.unusedVariables false
set_option linter.unusedSimpArgs false
namespace Go.Proofs.D
open Go Go.Abs
def phi (a b : ByteArray) (x : ByteArray) : ByteArray := if x = a then b else x
theorem rename_cnt (a b : ByteArray) (e : E) : (e.rename a b).cnt = e.cnt := by
  have hk : ∀ k ∈ e.kids, (k.rename a b).cnt = k.cnt := fun k hk => rename_cnt a b k
  rw [rename_eq, cnt_eq, cnt_eq e]
  show 1 + ((e.kids.map (E.rename a b)).map E.cnt).sum = _
  rw [List.map_map]
  congr 1
  congr 1
  exact List.map_congr_left hk
termination_by SizeOf.sizeOf e
decreasing_by exact E.kids_lt hk
theorem rename_small (a b : ByteArray) (hb : b.size ≤ 9223372036854775807) (e : E) (h : e.small) : (e.rename a b).small := by
  have hk : ∀ k ∈ e.kids, (k.rename a b).small := fun k hk => rename_small a b hb k (E.small_kids h k hk)
  rw [rename_eq]
  refine E.small_mk ?_ ?_
  · split
    · exact hb
    · exact E.small_name h
  · intro k hk'
    obtain ⟨x, hx, rfl⟩ := List.mem_map.1 hk'
    exact hk x hx
termination_by SizeOf.sizeOf e
decreasing_by exact E.kids_lt hk
theorem rename_back (a b : ByteArray) (e : E) (hok : e.ok = true) (hb : ¬ e.occ b) : (e.rename a b).rename b a = e := by
  by_cases h1 : e.op = 110
  · have hk : e.kids = [] := by
      rcases E.ok_ops hok with ⟨_, h⟩ | ⟨h, _⟩ | ⟨h, _⟩ | ⟨h, _⟩
      · exact h
      · omega
      · omega
      · omega
    have hn : e.name ≠ b := fun h => hb (by rw [occ_eq, if_pos h1]; exact h.symm)
    rw [rename_eq a b e, hk, rename_eq]
    obtain ⟨o, n, ks⟩ := e
    simp only [E.op, E.name, E.kids] at *
    subst hk
    subst h1
    by_cases hna : n = a
    · simp [hna]
    · simp [hna, hn]
  · have hk : ∀ k ∈ e.kids, (k.rename a b).rename b a = k := fun k hk => rename_back a b k (E.ok_kids hok h1 k hk).1 fun h => hb (by rw [occ_eq, if_neg h1]; exact ⟨k, hk, h⟩)
    rw [rename_eq a b e, rename_eq]
    obtain ⟨o, n, ks⟩ := e
    simp only [E.op, E.name, E.kids] at *
    simp only [h1, false_and, if_false, List.map_map]
    congr 1
    have : ∀ k ∈ ks, (E.rename b a ∘ E.rename a b) k = id k := fun k hk' => hk k hk'
    rw [List.map_congr_left this, List.map_id]
termination_by SizeOf.sizeOf e
decreasing_by exact E.kids_lt hk
theorem phi_inj {a b x y : ByteArray} (hx : x ≠ b) (hy : y ≠ b) (h : phi a b x = phi a b y) : x = y := by
  unfold phi at h
  by_cases h1 : x = a
  · by_cases h2 : y = a
    · rw [h1, h2]
    · rw [if_pos h1, if_neg h2] at h; exact absurd h.symm hy
  · by_cases h2 : y = a
    · rw [if_neg h1, if_pos h2] at h; exact absurd h hx
    · rwa [if_neg h1, if_neg h2] at h
theorem many_map (f : ByteArray → ByteArray) (good : ByteArray → Prop) (p q : Row → Prop) (h : ∀ w : Row, (∀ x ∈ w, good x) → (q (w.map f) ↔ p w)) (w : Row) (hw : ∀ x ∈ w, good x) : Many q (w.map f) ↔ Many p w := by
  constructor
  · intro hm
    have key : ∀ v, Many q v → ∀ w : Row, (∀ x ∈ w, good x) → v = w.map f → Many p w := by
      intro v hv
      induction hv with
      | one hq => intro w hw e; subst e; exact .one ((h w hw).1 hq)
      | more hq _ ih =>
        intro w hw e
        obtain ⟨u', v', rfl, rfl, rfl⟩ := List.map_eq_append_iff.1 e.symm
        exact .more ((h u' fun x hx => hw x (by simp [hx])).1 hq) (ih v' (fun x hx => hw x (by simp [hx])) rfl)
    exact key _ hm w hw rfl
  · intro hm
    induction hm with
    | one hp => exact .one ((h _ hw).2 hp)
    | more hp _ ih =>
      rw [List.map_append]
      exact .more ((h _ fun x hx => hw x (by simp [hx])).2 hp) (ih fun x hx => hw x (by simp [hx]))
theorem L_one {e : E} (h : e.op = 110) (w : Row) : e.L w = (w = [e.name]) := by rw [L_eq, if_pos h]
theorem L_seq {e : E} (h : e.op = 115) (w : Row) : e.L w = E.L.seqL e.kids w := by rw [L_eq, if_neg (by omega), if_pos h]
theorem L_alt {e : E} (h : e.op = 97) (w : Row) : e.L w = E.L.altL e.kids w := by rw [L_eq, if_neg (by omega), if_neg (by omega), if_pos h]
theorem L_opt {e : E} (h : e.op = 63) (w : Row) : e.L w = (w = [] ∨ E.L.headL e.kids w) := by rw [L_eq, if_neg (by omega), if_neg (by omega), if_neg (by omega), if_pos h]
theorem L_rep {e : E} (h : e.op = 42 ∨ e.op = 43) (w : Row) : e.L w = ((e.op = 42 ∧ w = []) ∨ Many (E.L.headL e.kids) w) := by rw [L_eq, if_neg (by omega), if_neg (by omega), if_neg (by omega), if_neg (by omega)]
theorem rename_L (a b : ByteArray) (e : E) (hok : e.ok = true) (hb : ¬ e.occ b) (w : Row) (hw : ∀ x ∈ w, x ≠ b) : (e.rename a b).L (w.map (phi a b)) ↔ e.L w := by
  have IH : ∀ k ∈ e.kids, ¬ e.op = 110 → ∀ w : Row, (∀ x ∈ w, x ≠ b) → ((k.rename a b).L (w.map (phi a b)) ↔ k.L w) := fun k hk hop w hw =>
    rename_L a b k (E.ok_kids hok hop k hk).1 (fun h => hb (by rw [occ_eq, if_neg hop]; exact ⟨k, hk, h⟩)) w hw
  have eop : (e.rename a b).op = e.op := by rw [rename_eq]; rfl
  have ekids : (e.rename a b).kids = e.kids.map (E.rename a b) := by rw [rename_eq]; rfl
  rcases E.ok_ops hok with ⟨h1, _⟩ | ⟨h1, _, _⟩ | ⟨h1, _, _⟩ | ⟨h1, _, k, h2, _⟩
  · have hn : e.name ≠ b := fun h => hb (by rw [occ_eq, if_pos h1]; exact h.symm)
    have en : (e.rename a b).name = phi a b e.name := by
      rw [rename_eq]
      show (if e.op = 110 ∧ e.name = a then b else e.name) = _
      simp [h1, phi]
    rw [L_one h1, L_one (eop.trans h1), en]
    constructor
    · intro h
      obtain ⟨x, rfl, hx⟩ := List.map_eq_singleton_iff.1 h
      rw [phi_inj (hw x (by simp)) hn hx]
    · intro h
      rw [h]; rfl
  · rw [L_seq h1, L_seq (eop.trans h1), ekids]
    have key : ∀ l : List E, (∀ k ∈ l, k ∈ e.kids) → ∀ w : Row, (∀ x ∈ w, x ≠ b) → (E.L.seqL (l.map (E.rename a b)) (w.map (phi a b)) ↔ E.L.seqL l w) := by
      intro l
      induction l with
      | nil => intro _ w _; simp [E.L.seqL]
      | cons y l ih =>
        intro hl w hw
        simp only [List.map_cons, E.L.seqL]
        constructor
        · rintro ⟨u, v, h, h1', h2'⟩
          obtain ⟨u', v', rfl, rfl, rfl⟩ := List.map_eq_append_iff.1 h
          exact ⟨u', v', rfl, (IH y (hl y (by simp)) (by omega) u' fun x hx => hw x (by simp [hx])).1 h1', (ih (fun k hk => hl k (by simp [hk])) v' fun x hx => hw x (by simp [hx])).1 h2'⟩
        · rintro ⟨u, v, rfl, h1', h2'⟩
          exact ⟨u.map (phi a b), v.map (phi a b), by rw [List.map_append], (IH y (hl y (by simp)) (by omega) u fun x hx => hw x (by simp [hx])).2 h1', (ih (fun k hk => hl k (by simp [hk])) v fun x hx => hw x (by simp [hx])).2 h2'⟩
    exact key e.kids (fun _ h => h) w hw
  · rw [L_alt h1, L_alt (eop.trans h1), ekids]
    have key : ∀ l : List E, (∀ k ∈ l, k ∈ e.kids) → (E.L.altL (l.map (E.rename a b)) (w.map (phi a b)) ↔ E.L.altL l w) := by
      intro l
      induction l with
      | nil => intro _; simp [E.L.altL]
      | cons y l ih =>
        intro hl
        simp only [List.map_cons, E.L.altL]
        exact or_congr (IH y (hl y (by simp)) (by omega) w hw) (ih fun k hk => hl k (by simp [hk]))
    exact key e.kids (fun _ h => h)
  · have hk : ∀ w : Row, (∀ x ∈ w, x ≠ b) → (E.L.headL ([k].map (E.rename a b)) (w.map (phi a b)) ↔ E.L.headL [k] w) := fun w hw => IH k (by rw [h2]; simp) (by omega) w hw
    have hnil : w.map (phi a b) = [] ↔ w = [] := by simp
    by_cases h63 : e.op = 63
    · rw [L_opt h63, L_opt (eop.trans h63), ekids, h2]
      exact or_congr hnil (hk w hw)
    · have h42 : e.op = 42 ∨ e.op = 43 := by omega
      rw [L_rep h42, L_rep (by rw [eop]; exact h42), ekids, h2, eop]
      exact or_congr (and_congr Iff.rfl hnil) (many_map _ _ _ _ hk w hw)
termination_by SizeOf.sizeOf e
decreasing_by exact E.kids_lt hk
theorem rename_has (a b : ByteArray) {e : E} (hr : e.right = true) (hr' : (e.rename a b).right = true) (hb : b ∉ e.names) (w : Row) (hw : ∀ x ∈ w, x ≠ b) : (e.rename a b).has (w.map (phi a b)) = e.has w := by
  have hok : e.ok = true := by simp [E.right] at hr; exact hr.2
  rw [Bool.eq_iff_iff, has_iff hr', has_iff hr]
  exact rename_L a b e hok (fun h => hb ((names_mem e b).2 h)) w hw
end Go.Proofs.D
