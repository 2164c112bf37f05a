/-
  FROM THE READING OF ARGUMENTS TO WHAT A CALL IS TOLD, AND BACK.
-/
import Derived.Test.YtonomogpephfkaaDoorAbsP
import Derived.ProofKit
import Derived.OpenShut
import Derived.Test.YtonomogpephfkaaDoorD4
import Derived.Test.YtonomogpephfkaaDoorD11
set_option linter.unusedVariables false
set_option linter.unusedSimpArgs false
namespace Go.Abs
open Go.RowKit Go.ChangeShapes Go.WideShapes

theorem mapM_mk {α β : Type} {f : α → Option β} : ∀ {l : List α} {xs : List β}, xs.length = l.length → (∀ (i : Nat) (x : α), l[i]? = some x → f x = xs[i]?) → l.mapM f = some xs
  | [], xs, hl, _ => by
    have : xs = [] := List.eq_nil_of_length_eq_zero (by simpa using hl)
    subst this
    rfl
  | a :: l, [], hl, _ => by simp at hl
  | a :: l, x :: xs, hl, h => by
    have h0 := h 0 a rfl
    have h1 := mapM_mk (l := l) (xs := xs) (by simpa using hl) (fun i y hy => by simpa using h (i + 1) y (by simpa using hy))
    simp at h0
    simp [h0, h1]
section
variable {H : Type} {enc : TypeId × Value → H} {P : Program} {w : World} {base : Nat} {spare : Nat → Bool} {held : Bool} {t : TypeId} {cs : List Value}
theorem trod_struct_mk {fs : Array Field} (ht : P.underlying t = some (.struct fs)) (hl : cs.length = P.cellsOf t) {n : Nat} {xs : List (DataW H × List MemPlace)} (hx : xs.length = fs.size)
    (h : ∀ (i : Nat) (f : Field), fs[i]? = some f → DataW.trod enc P w base spare held n f.type ((cs.drop f.offset).take (P.cellsOf f.type)) = xs[i]?) :
    DataW.trod enc P w base spare held (n + 1) t cs = some (.agg (xs.map (·.1)), xs.flatMap (·.2)) := by
  have hm : fs.toList.mapM (fun f => DataW.trod enc P w base spare held n f.type ((cs.drop f.offset).take (P.cellsOf f.type))) = some xs :=
    mapM_mk (by simpa using hx) fun i f hf => h i f (by simpa using hf)
  unfold DataW.trod
  rw [ht]
  split <;> simp_all
theorem trod_slice_nil {e : TypeId} (ht : P.underlying t = some (.slice e)) (n : Nat) : DataW.trod enc P w base spare held (n + 1) t [.slice none 0 0] = some (.nil, []) := by
  simp [DataW.trod, ht]
theorem trod_slice_mk {e : TypeId} (ht : P.underlying t = some (.slice e)) {a : Addr} {len cap n : Nat} {elems rest : List (DataW H × List MemPlace)} (hb : base ≤ a.block) (hc : len ≤ cap) (hm : cap ≤ maxLen) (hle : elems.length = len)
    (he : ∀ i, i < len → (w.cells? base (a.add (i * P.cellsOf e)) (P.cellsOf e)).bind (DataW.trod enc P w base spare held n e) = elems[i]?)
    (hr : spare a.block = true → rest.length = cap - len ∧ ∀ j, j < cap - len → (w.cells? base (a.add ((len + j) * P.cellsOf e)) (P.cellsOf e)).bind (DataW.trod enc P w base spare held n e) = rest[j]?)
    (hr' : spare a.block = false → rest = []) : DataW.trod enc P w base spare held (n + 1) t [.slice (some a) len cap] =
      some (.slice (elems.map (·.1)) (rest.map (·.1)), MemPlace.row a ((elems.length + rest.length) * P.cellsOf e) ++ (elems ++ rest).flatMap (·.2)) := by
  have h1 : (List.range len).mapM (fun i => (w.cells? base (a.add (i * P.cellsOf e)) (P.cellsOf e)).bind (DataW.trod enc P w base spare held n e)) = some elems :=
    mapM_mk (by simp [hle]) fun i x hx => by
      obtain ⟨hi, rfl⟩ := List.getElem?_eq_some_iff.1 hx
      simp at hi ⊢
      exact he i hi
  unfold DataW.trod
  rw [ht]
  simp only [hb, hc, hm, and_self, if_true, h1, Option.bind_some]
  cases hs : spare a.block with
  | false => simp [hr' hs]
  | true =>
    obtain ⟨q1, q2⟩ := hr hs
    have h2 : (List.range (cap - len)).mapM (fun j => (w.cells? base (a.add ((len + j) * P.cellsOf e)) (P.cellsOf e)).bind (DataW.trod enc P w base spare held n e)) = some rest :=
      mapM_mk (by simp [q1]) fun i x hx => by
        obtain ⟨hi, rfl⟩ := List.getElem?_eq_some_iff.1 hx
        simp at hi ⊢
        exact q2 i hi
    simp [h2]
/-- A type whose readings may be made again, where other places may be spare. -/
def Again (H : Type) (enc : TypeId × Value → H) (P : Program) (n : Nat) (t : TypeId) : Prop := ∀ (w w' : World) (sp : Nat → Bool) (cs : List Value) (x : DataW H × List MemPlace), DataW.trod enc P w 0 (fun _ => true) true n t cs = some x →
  (∀ p ∈ x.2, w.sameAt w' p) → (∀ p ∈ x.2, sp p.block = true) → DataW.trod enc P w' 0 sp true n t cs = some x
theorem again_bool (ht : P.underlying t = some .bool) (n : Nat) : Again H enc P n t := by
  intro w w' sp cs x h _ _
  obtain ⟨b, rfl, rfl⟩ := DataW.trod_bool ht h
  cases n with
  | zero => simp [DataW.trod] at h
  | succ n => simp [DataW.trod, ht]
theorem again_int {k : IntKind} (ht : P.underlying t = some (.int k)) (n : Nat) : Again H enc P n t := by
  intro w w' sp cs x h _ _
  obtain ⟨b, rfl, rfl, hw⟩ := DataW.trod_int ht h
  cases n with
  | zero => simp [DataW.trod] at h
  | succ n => simp [DataW.trod, ht, hw]
theorem again_string (ht : P.underlying t = some .string) (n : Nat) : Again H enc P n t := by
  intro w w' sp cs x h _ _
  obtain ⟨b, rfl, rfl, hw⟩ := DataW.trod_string ht h
  cases n with
  | zero => simp [DataW.trod] at h
  | succ n => simp [DataW.trod, ht, hw]
theorem again_struct {fs : Array Field} (ht : P.underlying t = some (.struct fs)) (n : Nat) (hf : ∀ m, m < n → ∀ (i : Nat) (f : Field), fs[i]? = some f → Again H enc P m f.type) : Again H enc P n t := by
  intro w w' sp cs x h hs hsp
  obtain ⟨xs, m, rfl, rfl, hl, hx, hi⟩ := DataW.trod_struct ht h
  refine trod_struct_mk ht hl hx fun i f hif => ?_
  have h1 := hi i f hif
  cases hxi : xs[i]? with
  | none =>
    have := (Array.getElem?_eq_some_iff.1 hif).1
    rw [← hx] at this
    rw [List.getElem?_eq_none_iff] at hxi
    omega
  | some y =>
    rw [hxi] at h1
    have hmem : ∀ p ∈ y.2, p ∈ xs.flatMap (·.2) := fun p hp => List.mem_flatMap.2 ⟨y, List.mem_of_getElem? hxi, hp⟩
    exact hf m (by omega) i f hif w w' sp _ y h1 (fun p hp => hs p (hmem p hp)) (fun p hp => hsp p (hmem p hp))
theorem again_slice {e : TypeId} (ht : P.underlying t = some (.slice e)) (h1 : 0 < P.cellsOf e) (n : Nat) (hf : ∀ m, m < n → Again H enc P m e) : Again H enc P n t := by
  intro w w' sp cs x h hs hsp
  rcases DataW.trod_slice ht h with ⟨rfl, rfl⟩ | ⟨a, len, cap, elems, rest, m, rfl, rfl, rfl, hb, hc, hm, hle, he, hr, _⟩
  · cases n with
    | zero => simp [DataW.trod] at h
    | succ n => exact trod_slice_nil ht n
  · obtain ⟨r1, r2⟩ := hr rfl
    have hcell : ∀ (i : Nat), i < cap → ∀ y, (w.cells? 0 (a.add (i * P.cellsOf e)) (P.cellsOf e)).bind (DataW.trod enc P w 0 (fun _ => true) true m e) = some y → (∀ p ∈ y.2, p ∈ (elems ++ rest).flatMap (·.2)) →
        (w'.cells? 0 (a.add (i * P.cellsOf e)) (P.cellsOf e)).bind (DataW.trod enc P w' 0 sp true m e) = some y := by
      intro i hi y hy hp
      obtain ⟨c, hc1, hc2⟩ := Option.bind_eq_some_iff.1 hy
      have : w'.cells? 0 (a.add (i * P.cellsOf e)) (P.cellsOf e) = some c := World.cells?_carry hc1 fun p hp' => hs p (List.mem_append.2 (.inl (MemPlace.mem_row.2 (by
        obtain ⟨k, hk, rfl⟩ := MemPlace.mem_row.1 hp'
        refine ⟨i * P.cellsOf e + k, ?_, ?_⟩
        · rw [hle, r1]
          have : (i + 1) * P.cellsOf e ≤ cap * P.cellsOf e := Nat.mul_le_mul_right _ hi
          rw [Nat.add_mul, Nat.one_mul] at this
          have e1 : len + (cap - len) = cap := by omega
          rw [e1]
          omega
        · unfold Addr.add
          split
          · rename_i h0; rw [h0]; simp
          · simp [Nat.add_assoc]))))
      rw [this]
      exact hf m (by omega) w w' sp c y hc2 (fun p hp' => hs p (List.mem_append.2 (.inr (hp p hp')))) (fun p hp' => hsp p (List.mem_append.2 (.inr (hp p hp'))))
    have hspa : cap = len ∨ sp a.block = true := by
      by_cases h0 : cap = 0
      · left; omega
      · right
        refine hsp (.cell a.block (a.off + 0)) (List.mem_append.2 (.inl (MemPlace.mem_row.2 ⟨0, ?_, rfl⟩)))
        rw [hle, r1]
        exact Nat.mul_pos (by omega) h1
    have hel : ∀ i, i < len → (w'.cells? 0 (a.add (i * P.cellsOf e)) (P.cellsOf e)).bind (DataW.trod enc P w' 0 sp true m e) = elems[i]? := fun i hi => by
      have h2 := he i hi
      rw [List.getElem?_eq_getElem (by omega)] at h2 ⊢
      exact hcell i (by omega) _ h2 fun p hp => List.mem_flatMap.2 ⟨_, List.mem_append.2 (.inl (List.getElem_mem _)), hp⟩
    refine trod_slice_mk ht hb hc hm hle hel (fun hs => ⟨r1, fun j hj => ?_⟩) (fun hs => ?_)
    · have h2 := r2 j hj
      rw [List.getElem?_eq_getElem (by omega)] at h2 ⊢
      exact hcell (len + j) (by omega) _ h2 fun p hp => List.mem_flatMap.2 ⟨_, List.mem_append.2 (.inr (List.getElem_mem _)), hp⟩
    · rcases hspa with h0 | h0
      · exact List.eq_nil_of_length_eq_zero (by omega)
      · rw [h0] at hs; cases hs
theorem againAll {w w' : World} {sp : Nat → Bool} : ∀ {ts : List TypeId} {vs : List Value} {ds : List (DataW H)} {ps : List MemPlace}, (∀ t ∈ ts, ∀ n, Again H enc P n t) → DataW.TrodAll enc P w 0 (fun _ => true) true ts vs ds ps → (∀ p ∈ ps, w.sameAt w' p) → (∀ p ∈ ps, sp p.block = true) →
    DataW.TrodAll enc P w' 0 sp true ts vs ds ps
  | [], _, _, _, _, h, _, _ => by
    obtain ⟨rfl, rfl, rfl⟩ := trodAll_nil h
    exact trodAll_mk0
  | t :: ts, _, _, _, ha, h, hs, hsp => by
    obtain ⟨v, vs, d, ds, p, q, rfl, rfl, rfl, ⟨n, hn⟩, h2⟩ := trodAll_cons h
    exact trodAll_cons_mk ⟨n, ha t (by simp) n w w' sp _ _ hn (fun p hp => hs p (List.mem_append.2 (.inl hp))) (fun p hp => hsp p (List.mem_append.2 (.inl hp)))⟩
      (againAll (fun t ht => ha t (by simp [ht])) h2 (fun p hp => hs p (List.mem_append.2 (.inr hp))) (fun p hp => hsp p (List.mem_append.2 (.inr hp))))
end
/-- Behind a call that answers true and leaves what was there as it was, the row's word holds. -/
theorem post_true {H : Type} {enc : TypeId × Value → H} {P : Program} {f : Func} {s : ChangeSpec} {W W' : World} {args : Array Value} {ds gs : List (DataW H)} {before : List MemPlace} {tb : TypeId} (hv : s.vars = []) (hW : DataW.Whole enc P f.params.toList s.vars false W args.toList ds gs before)
    (hg : ∀ t ∈ f.params.toList, ∀ n, Again H enc P n t) (hb : Below W.heap.size W W') (hr : f.resultTypes = #[tb]) (ht : P.underlying tb = some .bool) (hfn : s.fn H (ds ++ gs) = { results := [.lit (.bool true)], args := ds }) :
    s.post enc P f false true false false W args (.bool true) W' := by
  have hlt := hW.lt
  have hW' := hW
  obtain ⟨p, q, hA, hV, rfl, hz, hn⟩ := hW
  rw [hv] at hV
  obtain ⟨rfl, rfl⟩ := trodVars_none hV
  have hsame : ∀ p' ∈ p, W.sameAt W' p' := fun p' hp => hb.same (hlt p' (by simp [hp]))
  have hargs : ∀ sp : Nat → Bool, (∀ p' ∈ p ++ [], sp p'.block = true) → DataW.TrodAll enc P W' 0 sp true f.params.toList args.toList ds p := fun sp hsp => againAll hg hA hsame fun p' hp => hsp p' (by simp [hp])
  have hres : ∀ (b : Nat) (sp : Nat → Bool) (hd : Bool), DataW.TrodAll enc P W' b sp hd f.resultTypes.toList ((Value.bool true).resultList f.resultTypes.size) [.lit (.bool true)] [] := fun b sp hd => by
    rw [hr]
    exact trodAll_mk1 (shut_bool ht true)
  have hold : ∀ p' ∈ p ++ [], (fun b => decide (b < W.heap.size)) p'.block = true := fun p' hp => by simpa using hlt p' hp
  have hvars : ∀ sp : Nat → Bool, DataW.TrodVars enc P W' sp s.vars (s.fn H (ds ++ [])).vars [] := fun sp => by rw [hv, hfn]; rfl
  exact ⟨ds, [], p ++ [], [], p, [], hW', by rw [hfn]; exact hres _ _ _, by rw [hfn]; exact hargs _ hold, hvars _, hb.frame _, fun h => by cases h⟩
/-- What a contract without blocks says of a call from outside: its answer, and that what was there is as it was. -/
theorem calls_of {P : Program} {Gl : Granted} {g : FuncId} {args : List AV} {u : Value} (h : Fun P Gl g args [] (.pv (.val u)) []) (w : World) (cargs : List Value) (hg : Gl.p w fun k => k < w.heap.size) (hl : cargs.length = args.length)
    (hr : ∀ (j : Nat) (x : AV) (c : Value), args[j]? = some x → cargs[j]? = some c → Rep w (fun k => k < w.heap.size) (fun _ => .dead) x c) : Calls P g cargs.toArray w fun e w' => e = .returned u ∧ Below w.heap.size w w' := by
  refine (h.calls w (fun k => k < w.heap.size) (fun _ => .dead) cargs hg ⟨fun k hk => hk, fun r s k _ h => h.elim, fun r k h => h.elim, fun r => rfl⟩ hl hr).mono fun e w' he => ?_
  obtain ⟨cv, F, hd, rfl, hrep, hlies, hleft⟩ := he
  refine ⟨by rw [bool_of hrep], ⟨hleft.os, hleft.tape, hleft.output, hleft.size, fun k hk => hleft.old k hk fun ⟨s, hs⟩ => hs.elim⟩⟩
/-- Nothing is taken for granted. -/
def granted : Granted := ⟨fun _ _ => True, fun _ _ _ => trivial⟩
end Go.Abs
/-
  THE ARGUMENTS, as the row reads them: expressions, rows of names, texts.
-/
set_option linter.unusedVariables false
set_option linter.unusedSimpArgs false
namespace Go.Proofs.D
open Go Go.Abs Go.RowKit Go.ChangeShapes Go.WideShapes
section
variable {H : Type} {enc : TypeId × Value → H} {W : World}
abbrev allOf (W : World) (k : Nat) : Prop := k < W.heap.size
theorem cells25 : Tryd.prog.cellsOf 25 = 3 := by kernel_rfl
theorem cells5 : Tryd.prog.cellsOf 5 = 1 := by kernel_rfl
theorem cells9 : Tryd.prog.cellsOf 9 = 1 := by kernel_rfl
theorem cells23 : Tryd.prog.cellsOf 23 = 1 := by kernel_rfl
theorem again5 (n : Nat) : Again H enc Tryd.prog n 5 := again_int Tryd.underlying5 n
theorem again3 (n : Nat) : Again H enc Tryd.prog n 3 := again_int Tryd.underlying3 n
theorem again9 (n : Nat) : Again H enc Tryd.prog n 9 := again_string Tryd.underlying9 n
theorem again42 (n : Nat) : Again H enc Tryd.prog n 42 := again_slice Tryd.underlying42 (by rw [cells9]; decide) n fun m _ => again9 m
theorem again25 (n : Nat) : Again H enc Tryd.prog n 25 := by
  induction n using Nat.strongRecOn with
  | _ n ih =>
    refine again_struct Tryd.underlying25 n fun m hm i f hf => ?_
    match i, hf with
    | 0, hf => simp at hf; subst hf; exact again5 m
    | 1, hf => simp at hf; subst hf; exact again9 m
    | 2, hf => simp at hf; subst hf; exact again_slice Tryd.underlying23 (by rw [cells25]; decide) m fun k hk => ih k (by omega)
    | i + 3, hf => simp at hf
theorem add_add {a : Addr} (hs : a.spot = none) (p j : Nat) : (a.add p).add j = a.add (p + j) := by
  obtain ⟨b, o, s⟩ := a
  simp at hs
  subst hs
  rw [add_at, add_at, add_at, Nat.add_assoc]
theorem cell_lt {w : World} {a : Addr} {v : Value} (h : w.cell? a = some v) : a.block < w.heap.size ∧ a.spot = none := by
  unfold World.cell? at h
  cases hb : w.heap[a.block]? with
  | none => rw [hb] at h; cases h
  | some o =>
    refine ⟨(Array.getElem?_eq_some_iff.1 hb).1, ?_⟩
    rw [hb] at h
    cases o with
    | cells c t f =>
      simp only at h
      cases hs : a.spot with
      | none => rfl
      | some s => rw [hs] at h; simp at h
    | _ => cases h
theorem cells_get {w : World} {a : Addr} {n : Nat} {c : List Value} (h : w.cells? 0 a n = some c) : c.length = n ∧ ∀ j, j < n → w.cell? (a.add j) = c[j]? := by
  unfold World.cells? at h
  simp only [Nat.zero_le, if_true] at h
  exact ⟨by simpa using mapM_some_length h, fun j hj => mapM_some_get h j j (by simp [hj])⟩
/-- A slice that was read: its elements, of which each is known. -/
theorem reads_slice {t e sz : Nat} (ht : Tryd.prog.underlying t = some (.slice e)) (hc : Tryd.prog.cellsOf e = sz) (hsz : 0 < sz) {X : Type} [Inhabited X] (pv : X → List PV) (good : X → Prop) (n : Nat)
    (he : ∀ m, m < n → ∀ cs x, DataW.trod enc Tryd.prog W 0 (fun _ => true) true m e cs = some x → ∃ y : X, good y ∧ (pv y).length = sz ∧ ∀ (j : Nat) (c : PV) (v : Value), (pv y)[j]? = some c → cs[j]? = some v → RepP W (allOf W) c v)
    (cs : List Value) (x : DataW H × List MemPlace) (h : DataW.trod enc Tryd.prog W 0 (fun _ => true) true n t cs = some x) :
    ∃ (l : List X) (v : Value), cs = [v] ∧ (∀ y ∈ l, good y) ∧ RepP W (allOf W) (.ro sz (l.map pv)) v ∧ (x.1 = .nil ∧ l = [] ∨ ∃ es sp, x.1 = .slice es sp ∧ es.length = l.length) := by
  rcases DataW.trod_slice ht h with ⟨rfl, rfl⟩ | ⟨a, len, cap, elems, rest, m, rfl, rfl, rfl, hb, hcl, hm, hle, hel, hr, _⟩
  · exact ⟨[], _, rfl, by simp, .ro sz [] none 0 (fun _ _ => undef) (fun _ => rfl) (by simp) (by simp) (fun i e h => by simp at h) (fun h => absurd rfl h) (fun i j e c h => by simp at h), .inl ⟨rfl, rfl⟩⟩
  · rw [hc] at hel
    have hx : ∀ i, i < len → ∃ (y : X) (c : List Value), good y ∧ (pv y).length = sz ∧ W.cells? 0 (a.add (i * sz)) sz = some c ∧ ∀ (j : Nat) (p : PV) (v : Value), (pv y)[j]? = some p → c[j]? = some v → RepP W (allOf W) p v := by
      intro i hi
      have h2 := hel i hi
      rw [List.getElem?_eq_getElem (by omega)] at h2
      obtain ⟨c, hc1, hc2⟩ := Option.bind_eq_some_iff.1 h2
      obtain ⟨y, y1, y2, y3⟩ := he m (by omega) c _ hc2
      exact ⟨y, c, y1, y2, hc1, y3⟩
    let f : Nat → X := fun i => if hi : i < len then (hx i hi).choose else default
    have hf : ∀ i (hi : i < len), good (f i) ∧ (pv (f i)).length = sz ∧ ∃ c, W.cells? 0 (a.add (i * sz)) sz = some c ∧ ∀ (j : Nat) (p : PV) (v : Value), (pv (f i))[j]? = some p → c[j]? = some v → RepP W (allOf W) p v := by
      intro i hi
      have e1 : f i = (hx i hi).choose := dif_pos hi
      obtain ⟨c, q1, q2, q3, q4⟩ := (hx i hi).choose_spec
      rw [e1]
      exact ⟨q1, q2, c, q3, q4⟩
    have hspot : 0 < len → a.spot = none ∧ a.block < W.heap.size := by
      intro h0
      obtain ⟨_, _, c, q3, _⟩ := hf 0 h0
      obtain ⟨l1, l2⟩ := cells_get q3
      have := l2 0 hsz
      rw [List.getElem?_eq_getElem (by omega)] at this
      have h3 := cell_lt this
      simp [Addr.add] at h3
      exact ⟨h3.2, h3.1⟩
    have hval : ∀ i j, i < len → j < sz → ∃ v, W.cell? (a.add (i * sz + j)) = some v ∧ ∀ p, (pv (f i))[j]? = some p → RepP W (allOf W) p v := by
      intro i j hi hj
      obtain ⟨_, _, c, q3, q4⟩ := hf i hi
      obtain ⟨l1, l2⟩ := cells_get q3
      have h2 := l2 j hj
      rw [add_add (hspot (by omega)).1, List.getElem?_eq_getElem (by omega)] at h2
      exact ⟨_, h2, fun p hp => q4 j p _ hp (List.getElem?_eq_getElem _)⟩
    have hlen : ((List.range len).map f).length = len := by simp
    have hget : ∀ (i : Nat) (el : List PV), (((List.range len).map f).map pv)[i]? = some el → i < len ∧ el = pv (f i) := by
      intro i el hi
      rw [List.map_map, List.getElem?_map] at hi
      cases hri : (List.range len)[i]? with
      | none => rw [hri] at hi; cases hi
      | some k =>
        rw [hri] at hi
        obtain ⟨h1, h2⟩ := List.getElem?_eq_some_iff.1 hri
        simp at h1 h2 hi
        subst h2
        exact ⟨h1, hi.symm⟩
    refine ⟨(List.range len).map f, _, rfl, ?_, ?_, .inr ⟨_, _, rfl, by simp [hle]⟩⟩
    · intro y hy
      obtain ⟨i, hi, rfl⟩ := List.mem_map.1 hy
      exact (hf i (by simpa using hi)).1
    · have hro := RepP.ro (w := W) (F := allOf W) sz (((List.range len).map f).map pv) (some a) cap (fun i j => (W.cell? (a.add (i * sz + j))).getD undef) (fun h => by cases h) (by simpa using hcl) (by simp; simp only [maxLen] at hm; omega) (fun i el hi => by
        obtain ⟨h1, rfl⟩ := hget i el hi
        exact (hf i h1).2.1) (fun hne => by
        have h0 : 0 < len := by
          rcases Nat.eq_zero_or_pos len with h | h
          · subst h; simp at hne
          · exact h
        refine ⟨a, rfl, (hspot h0).1, (hspot h0).2, fun i j el c h1 h2 => ?_⟩
        obtain ⟨g1, rfl⟩ := hget i el h1
        have g2 : j < sz := by rw [← (hf i g1).2.1]; exact (List.getElem?_eq_some_iff.1 h2).1
        obtain ⟨v, q1, _⟩ := hval i j g1 g2
        rw [q1]; rfl) (fun i j el c h1 h2 => by
        obtain ⟨g1, rfl⟩ := hget i el h1
        have g2 : j < sz := by rw [← (hf i g1).2.1]; exact (List.getElem?_eq_some_iff.1 h2).1
        obtain ⟨v, q1, q2⟩ := hval i j g1 g2
        rw [q1]
        exact q2 c h2)
      simpa using hro
instance : Inhabited E := ⟨.mk 0 ⟨#[]⟩ []⟩
instance : Inhabited ByteArray := ⟨⟨#[]⟩⟩
theorem pv_len (e : E) : e.pv.length = 3 := by rw [E.pv_eq]; rfl
theorem str_of {sp : Nat → Bool} {held : Bool} {n : Nat} {cs : List Value} {x : DataW H × List MemPlace} (h : DataW.trod enc Tryd.prog W 0 sp held n 9 cs = some x) : ∃ s : ByteArray, cs = [.string s] ∧ s.size ≤ maxLen := by
  obtain ⟨s, h1, _, h2⟩ := DataW.trod_string Tryd.underlying9 h
  exact ⟨s, h1, h2⟩
set_option maxRecDepth 20000 in
theorem reads25 (n : Nat) : ∀ (cs : List Value) (x : DataW H × List MemPlace), DataW.trod enc Tryd.prog W 0 (fun _ => true) true n 25 cs = some x →
    ∃ e : E, e.small ∧ cs.length = 3 ∧ ∀ (j : Nat) (c : PV) (v : Value), e.pv[j]? = some c → cs[j]? = some v → RepP W (allOf W) c v := by
  induction n using Nat.strongRecOn with
  | _ n ih =>
    intro cs x h
    obtain ⟨xs, m, rfl, rfl, hl, hx, hi⟩ := DataW.trod_struct Tryd.underlying25 h
    rw [cells25] at hl
    match cs, hl with
    | [c0, c1, c2], _ =>
      have g : ∀ i, i < 3 → ∃ y, xs[i]? = some y := fun i hi3 => ⟨_, List.getElem?_eq_getElem (by rw [hx]; exact hi3)⟩
      have h0 := hi 0 _ rfl
      have h1 := hi 1 _ rfl
      have h2 := hi 2 _ rfl
      obtain ⟨y0, e0⟩ := g 0 (by decide)
      obtain ⟨y1, e1⟩ := g 1 (by decide)
      obtain ⟨y2, e2⟩ := g 2 (by decide)
      rw [e0] at h0
      rw [e1] at h1
      rw [e2] at h2
      replace h0 : DataW.trod enc Tryd.prog W 0 (fun _ => true) true m 5 [c0] = some y0 := by simpa [cells5] using h0
      replace h1 : DataW.trod enc Tryd.prog W 0 (fun _ => true) true m 9 [c1] = some y1 := by simpa [cells9] using h1
      replace h2 : DataW.trod enc Tryd.prog W 0 (fun _ => true) true m 23 [c2] = some y2 := by simpa [cells23] using h2
      obtain ⟨op, q0, _, _⟩ := DataW.trod_int Tryd.underlying5 h0
      obtain ⟨s, q1, hs⟩ := str_of h1
      obtain ⟨l, v, q2, hsm, hr, _⟩ := reads_slice (e := 25) (sz := 3) Tryd.underlying23 cells25 (by decide) E.pv E.small m (fun k hk cs x hx => by
        obtain ⟨e, a1, a2, a3⟩ := ih k (by omega) cs x hx
        exact ⟨e, a1, pv_len e, a3⟩) _ _ h2
      obtain rfl : c0 = .int .u8 op := by simpa using q0
      obtain rfl : c1 = .string s := by simpa using q1
      obtain rfl : c2 = v := by simpa using q2
      refine ⟨.mk op s l, E.small_mk (Nat.le_trans hs (by decide)) hsm, rfl, fun j c v h3 h4 => ?_⟩
      rw [E.pv_eq] at h3
      match j, h3, h4 with
      | 0, h3, h4 => simp at h3 h4; subst h3 h4; exact .val _ rfl
      | 1, h3, h4 => simp at h3 h4; subst h3 h4; exact .val _ rfl
      | 2, h3, h4 => simp at h3 h4; subst h3 h4; exact hr
abbrev noHd : Nm → Hd := fun _ => .dead
theorem arg25 {v : Value} {d : DataW H} {p : List MemPlace} (h : DataW.Trod enc Tryd.prog W 0 (fun _ => true) true 25 v d p) : ∃ e : E, e.small ∧ Rep W (allOf W) noHd e.av v := by
  obtain ⟨n, hn⟩ := h
  obtain ⟨e, h1, h2, h3⟩ := reads25 n _ _ hn
  refine ⟨e, h1, ?_⟩
  have hv : ∃ cs : List Value, v = .agg cs.toArray ∧ v.cells.toList = cs := by
    cases v with
    | agg a => exact ⟨a.toList, by simp, rfl⟩
    | _ => simp [Value.cells] at h2
  obtain ⟨cs, rfl, hc⟩ := hv
  rw [hc] at h2 h3
  have hp : ∀ (j : Nat) (c : AV) (v : Value), e.cells[j]? = some c → cs[j]? = some v → ∃ q, c = .pv q ∧ RepP W (allOf W) q v := by
    intro j c v hj hv
    have : e.cells = e.pv.map AV.pv := by rw [E.pv_eq]; rfl
    rw [this, List.getElem?_map] at hj
    cases hq : e.pv[j]? with
    | none => rw [hq] at hj; cases hj
    | some q => rw [hq] at hj; cases hj; exact ⟨q, rfl, h3 j q v hq hv⟩
  refine .agg e.cells cs (by rw [h2]; rfl) (fun j c v hj hv => ?_) fun v hv => ?_
  · obtain ⟨q, rfl, hq⟩ := hp j c v hj hv
    exact .pv q v hq
  · obtain ⟨j, hj⟩ := List.getElem?_of_mem hv
    have : j < e.cells.length := by rw [show e.cells.length = 3 from rfl, ← h2]; exact (List.getElem?_eq_some_iff.1 hj).1
    obtain ⟨q, _, hq⟩ := hp j _ v (List.getElem?_eq_getElem this) hj
    exact hq.one
set_option maxRecDepth 20000 in
theorem arg42 {b0 : Nat} {v : Value} {d : DataW H} {p : List MemPlace} (hok : Value.okWide Tryd.prog W .any b0 42 v) (h : DataW.Trod enc Tryd.prog W 0 (fun _ => true) true 42 v d p) :
    ∃ l : List ByteArray, Rep W (allOf W) noHd (rowAV l) v ∧ (d = .nil ∧ l = [] ∨ ∃ es sp, d = .slice es sp ∧ es.length = l.length) ∧ ∀ s ∈ l, s.size ≤ maxLen := by
  obtain ⟨n, hn⟩ := h
  obtain ⟨l, u, h1, hg, h2, h3⟩ := reads_slice (e := 9) (sz := 1) Tryd.underlying42 cells9 (by decide) (fun s : ByteArray => [.val (.string s)]) (fun s => s.size ≤ maxLen) n (fun m _ cs x hx => by
    obtain ⟨s, rfl, hs⟩ := str_of hx
    refine ⟨s, hs, rfl, fun j c v h3 h4 => ?_⟩
    match j, h3, h4 with
    | 0, h3, h4 => simp at h3 h4; subst h3 h4; exact .val _ rfl) _ _ hn
  have hv : v = u := by
    obtain ⟨A, k, c, rfl⟩ := okWide_slice Tryd.underlying42 hok
    simpa [Value.cells] using h1
  subst hv
  exact ⟨l, .pv _ _ h2, h3, hg⟩
set_option maxRecDepth 20000 in
theorem arg9 {b0 : Nat} {v : Value} {d : DataW H} {p : List MemPlace} (hok : Value.okWide Tryd.prog W .any b0 9 v) (h : DataW.Trod enc Tryd.prog W 0 (fun _ => true) true 9 v d p) : ∃ s : ByteArray, Rep W (allOf W) noHd (vS s) v ∧ s.size ≤ maxLen := by
  obtain ⟨s, rfl, _, _, h4⟩ := Go.ChangeMaps.open_string Tryd.underlying9 hok h
  exact ⟨s, rep_val rfl, h4⟩
end
end Go.Proofs.D
