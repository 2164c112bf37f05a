/-
  FROM THE READING OF ARGUMENTS TO WHAT A CALL IS TOLD, AND BACK.
-/
import Derived.Test.YtciibpfhjfegnaaGreatDoorAbsP
import Derived.ProofKit
import Derived.OpenShut
import Derived.Laws.BytesString
set_option linter.unusedVariables false
set_option linter.unusedSimpArgs false
namespace Go.Abs
open Go.RowKit Go.ChangeShapes Go.WideShapes
theorem mapM_mk {α β : Type} {f : α → Option β} : ∀ {l : List α} {xs : List β}, xs.length = l.length → (∀ (i : Nat) (x : α), l[i]? = some x → f x = xs[i]?) → l.mapM f = some xs
  | [], xs, hl, _ => by
    have : xs = [] := List.eq_nil_of_length_eq_zero (by simpa using hl)
    subst this
    rfl
  | a :: l, [], hl, _ => by simp at hl
  | a :: l, x :: xs, hl, h => by
    have h0 := h 0 a rfl
    have h1 := mapM_mk (l := l) (xs := xs) (by simpa using hl) (fun i y hy => by simpa using h (i + 1) y (by simpa using hy))
    simp at h0
    simp [h0, h1]
section
variable {H : Type} {enc : TypeId × Value → H} {P : Program} {w : World} {base : Nat} {spare : Nat → Bool} {held : Bool} {t : TypeId} {cs : List Value}
theorem trod_struct_mk {fs : Array Field} (ht : P.underlying t = some (.struct fs)) (hl : cs.length = P.cellsOf t) {n : Nat} {xs : List (DataW H × List MemPlace)} (hx : xs.length = fs.size)
    (h : ∀ (i : Nat) (f : Field), fs[i]? = some f → DataW.trod enc P w base spare held n f.type ((cs.drop f.offset).take (P.cellsOf f.type)) = xs[i]?) :
    DataW.trod enc P w base spare held (n + 1) t cs = some (.agg (xs.map (·.1)), xs.flatMap (·.2)) := by
  have hm : fs.toList.mapM (fun f => DataW.trod enc P w base spare held n f.type ((cs.drop f.offset).take (P.cellsOf f.type))) = some xs :=
    mapM_mk (by simpa using hx) fun i f hf => h i f (by simpa using hf)
  unfold DataW.trod
  rw [ht]
  split <;> simp_all
theorem trod_slice_nil {e : TypeId} (ht : P.underlying t = some (.slice e)) (n : Nat) : DataW.trod enc P w base spare held (n + 1) t [.slice none 0 0] = some (.nil, []) := by
  simp [DataW.trod, ht]
theorem trod_slice_mk {e : TypeId} (ht : P.underlying t = some (.slice e)) {a : Addr} {len cap n : Nat} {elems rest : List (DataW H × List MemPlace)} (hb : base ≤ a.block) (hc : len ≤ cap) (hm : cap ≤ maxLen) (hle : elems.length = len)
    (he : ∀ i, i < len → (w.cells? base (a.add (i * P.cellsOf e)) (P.cellsOf e)).bind (DataW.trod enc P w base spare held n e) = elems[i]?)
    (hr : spare a.block = true → rest.length = cap - len ∧ ∀ j, j < cap - len → (w.cells? base (a.add ((len + j) * P.cellsOf e)) (P.cellsOf e)).bind (DataW.trod enc P w base spare held n e) = rest[j]?)
    (hr' : spare a.block = false → rest = []) : DataW.trod enc P w base spare held (n + 1) t [.slice (some a) len cap] =
      some (.slice (elems.map (·.1)) (rest.map (·.1)), MemPlace.row a ((elems.length + rest.length) * P.cellsOf e) ++ (elems ++ rest).flatMap (·.2)) := by
  have h1 : (List.range len).mapM (fun i => (w.cells? base (a.add (i * P.cellsOf e)) (P.cellsOf e)).bind (DataW.trod enc P w base spare held n e)) = some elems :=
    mapM_mk (by simp [hle]) fun i x hx => by
      obtain ⟨hi, rfl⟩ := List.getElem?_eq_some_iff.1 hx
      simp at hi ⊢
      exact he i hi
  unfold DataW.trod
  rw [ht]
  simp only [hb, hc, hm, and_self, if_true, h1, Option.bind_some]
  cases hs : spare a.block with
  | false => simp [hr' hs]
  | true =>
    obtain ⟨q1, q2⟩ := hr hs
    have h2 : (List.range (cap - len)).mapM (fun j => (w.cells? base (a.add ((len + j) * P.cellsOf e)) (P.cellsOf e)).bind (DataW.trod enc P w base spare held n e)) = some rest :=
      mapM_mk (by simp [q1]) fun i x hx => by
        obtain ⟨hi, rfl⟩ := List.getElem?_eq_some_iff.1 hx
        simp at hi ⊢
        exact q2 i hi
    simp [h2]
def Again (H : Type) (enc : TypeId × Value → H) (P : Program) (n : Nat) (t : TypeId) : Prop := ∀ (w w' : World) (sp : Nat → Bool) (cs : List Value) (x : DataW H × List MemPlace), DataW.trod enc P w 0 (fun _ => true) true n t cs = some x →
  (∀ p ∈ x.2, w.sameAt w' p) → (∀ p ∈ x.2, sp p.block = true) → DataW.trod enc P w' 0 sp true n t cs = some x
theorem again_int {k : IntKind} (ht : P.underlying t = some (.int k)) (n : Nat) : Again H enc P n t := by
  intro w w' sp cs x h _ _
  obtain ⟨b, rfl, rfl, hw⟩ := DataW.trod_int ht h
  cases n with
  | zero => simp [DataW.trod] at h
  | succ n => simp [DataW.trod, ht, hw]
theorem again_string (ht : P.underlying t = some .string) (n : Nat) : Again H enc P n t := by
  intro w w' sp cs x h _ _
  obtain ⟨b, rfl, rfl, hw⟩ := DataW.trod_string ht h
  cases n with
  | zero => simp [DataW.trod] at h
  | succ n => simp [DataW.trod, ht, hw]
theorem again_struct {fs : Array Field} (ht : P.underlying t = some (.struct fs)) (n : Nat) (hf : ∀ m, m < n → ∀ (i : Nat) (f : Field), fs[i]? = some f → Again H enc P m f.type) : Again H enc P n t := by
  intro w w' sp cs x h hs hsp
  obtain ⟨xs, m, rfl, rfl, hl, hx, hi⟩ := DataW.trod_struct ht h
  refine trod_struct_mk ht hl hx fun i f hif => ?_
  have h1 := hi i f hif
  cases hxi : xs[i]? with
  | none =>
    have := (Array.getElem?_eq_some_iff.1 hif).1
    rw [← hx] at this
    rw [List.getElem?_eq_none_iff] at hxi
    omega
  | some y =>
    rw [hxi] at h1
    have hmem : ∀ p ∈ y.2, p ∈ xs.flatMap (·.2) := fun p hp => List.mem_flatMap.2 ⟨y, List.mem_of_getElem? hxi, hp⟩
    exact hf m (by omega) i f hif w w' sp _ y h1 (fun p hp => hs p (hmem p hp)) (fun p hp => hsp p (hmem p hp))
theorem again_slice {e : TypeId} (ht : P.underlying t = some (.slice e)) (h1 : 0 < P.cellsOf e) (n : Nat) (hf : ∀ m, m < n → Again H enc P m e) : Again H enc P n t := by
  intro w w' sp cs x h hs hsp
  rcases DataW.trod_slice ht h with ⟨rfl, rfl⟩ | ⟨a, len, cap, elems, rest, m, rfl, rfl, rfl, hb, hc, hm, hle, he, hr, _⟩
  · cases n with
    | zero => simp [DataW.trod] at h
    | succ n => exact trod_slice_nil ht n
  · obtain ⟨r1, r2⟩ := hr rfl
    have hcell : ∀ (i : Nat), i < cap → ∀ y, (w.cells? 0 (a.add (i * P.cellsOf e)) (P.cellsOf e)).bind (DataW.trod enc P w 0 (fun _ => true) true m e) = some y → (∀ p ∈ y.2, p ∈ (elems ++ rest).flatMap (·.2)) →
        (w'.cells? 0 (a.add (i * P.cellsOf e)) (P.cellsOf e)).bind (DataW.trod enc P w' 0 sp true m e) = some y := by
      intro i hi y hy hp
      obtain ⟨c, hc1, hc2⟩ := Option.bind_eq_some_iff.1 hy
      have : w'.cells? 0 (a.add (i * P.cellsOf e)) (P.cellsOf e) = some c := World.cells?_carry hc1 fun p hp' => hs p (List.mem_append.2 (.inl (MemPlace.mem_row.2 (by
        obtain ⟨k, hk, rfl⟩ := MemPlace.mem_row.1 hp'
        refine ⟨i * P.cellsOf e + k, ?_, ?_⟩
        · rw [hle, r1]
          have : (i + 1) * P.cellsOf e ≤ cap * P.cellsOf e := Nat.mul_le_mul_right _ hi
          rw [Nat.add_mul, Nat.one_mul] at this
          have e1 : len + (cap - len) = cap := by omega
          rw [e1]
          omega
        · unfold Addr.add
          split
          · rename_i h0; rw [h0]; simp
          · simp [Nat.add_assoc]))))
      rw [this]
      exact hf m (by omega) w w' sp c y hc2 (fun p hp' => hs p (List.mem_append.2 (.inr (hp p hp')))) (fun p hp' => hsp p (List.mem_append.2 (.inr (hp p hp'))))
    have hspa : cap = len ∨ sp a.block = true := by
      by_cases h0 : cap = 0
      · left; omega
      · right
        refine hsp (.cell a.block (a.off + 0)) (List.mem_append.2 (.inl (MemPlace.mem_row.2 ⟨0, ?_, rfl⟩)))
        rw [hle, r1]
        exact Nat.mul_pos (by omega) h1
    have hel : ∀ i, i < len → (w'.cells? 0 (a.add (i * P.cellsOf e)) (P.cellsOf e)).bind (DataW.trod enc P w' 0 sp true m e) = elems[i]? := fun i hi => by
      have h2 := he i hi
      rw [List.getElem?_eq_getElem (by omega)] at h2 ⊢
      exact hcell i (by omega) _ h2 fun p hp => List.mem_flatMap.2 ⟨_, List.mem_append.2 (.inl (List.getElem_mem _)), hp⟩
    refine trod_slice_mk ht hb hc hm hle hel (fun hs => ⟨r1, fun j hj => ?_⟩) (fun hs => ?_)
    · have h2 := r2 j hj
      rw [List.getElem?_eq_getElem (by omega)] at h2 ⊢
      exact hcell (len + j) (by omega) _ h2 fun p hp => List.mem_flatMap.2 ⟨_, List.mem_append.2 (.inr (List.getElem_mem _)), hp⟩
    · rcases hspa with h0 | h0
      · exact List.eq_nil_of_length_eq_zero (by omega)
      · rw [h0] at hs; cases hs
theorem againAll {w w' : World} {sp : Nat → Bool} : ∀ {ts : List TypeId} {vs : List Value} {ds : List (DataW H)} {ps : List MemPlace}, (∀ t ∈ ts, ∀ n, Again H enc P n t) → DataW.TrodAll enc P w 0 (fun _ => true) true ts vs ds ps → (∀ p ∈ ps, w.sameAt w' p) → (∀ p ∈ ps, sp p.block = true) →
    DataW.TrodAll enc P w' 0 sp true ts vs ds ps
  | [], _, _, _, _, h, _, _ => by
    obtain ⟨rfl, rfl, rfl⟩ := trodAll_nil h
    exact trodAll_mk0
  | t :: ts, _, _, _, ha, h, hs, hsp => by
    obtain ⟨v, vs, d, ds, p, q, rfl, rfl, rfl, ⟨n, hn⟩, h2⟩ := trodAll_cons h
    exact trodAll_cons_mk ⟨n, ha t (by simp) n w w' sp _ _ hn (fun p hp => hs p (List.mem_append.2 (.inl hp))) (fun p hp => hsp p (List.mem_append.2 (.inl hp)))⟩
      (againAll (fun t ht => ha t (by simp [ht])) h2 (fun p hp => hs p (List.mem_append.2 (.inr hp))) (fun p hp => hsp p (List.mem_append.2 (.inr hp))))
end
theorem post_true {H : Type} {enc : TypeId × Value → H} {P : Program} {f : Func} {s : ChangeSpec} {W W' : World} {args : Array Value} {ds gs : List (DataW H)} {before : List MemPlace} {tb : TypeId} (hv : s.vars = []) (hW : DataW.Whole enc P f.params.toList s.vars false W args.toList ds gs before)
    (hg : ∀ t ∈ f.params.toList, ∀ n, Again H enc P n t) (hb : Below W.heap.size W W') (hr : f.resultTypes = #[tb]) (ht : P.underlying tb = some .bool) (hfn : s.fn H (ds ++ gs) = { results := [.lit (.bool true)], args := ds }) :
    s.post enc P f false true false false W args (.bool true) W' := by
  have hlt := hW.lt
  have hW' := hW
  obtain ⟨p, q, hA, hV, rfl, hz, hn⟩ := hW
  rw [hv] at hV
  obtain ⟨rfl, rfl⟩ := trodVars_none hV
  have hsame : ∀ p' ∈ p, W.sameAt W' p' := fun p' hp => hb.same (hlt p' (by simp [hp]))
  have hargs : ∀ sp : Nat → Bool, (∀ p' ∈ p ++ [], sp p'.block = true) → DataW.TrodAll enc P W' 0 sp true f.params.toList args.toList ds p := fun sp hsp => againAll hg hA hsame fun p' hp => hsp p' (by simp [hp])
  have hres : ∀ (b : Nat) (sp : Nat → Bool) (hd : Bool), DataW.TrodAll enc P W' b sp hd f.resultTypes.toList ((Value.bool true).resultList f.resultTypes.size) [.lit (.bool true)] [] := fun b sp hd => by
    rw [hr]
    exact trodAll_mk1 (shut_bool ht true)
  have hold : ∀ p' ∈ p ++ [], (fun b => decide (b < W.heap.size)) p'.block = true := fun p' hp => by simpa using hlt p' hp
  have hvars : ∀ sp : Nat → Bool, DataW.TrodVars enc P W' sp s.vars (s.fn H (ds ++ [])).vars [] := fun sp => by rw [hv, hfn]; rfl
  exact ⟨ds, [], p ++ [], [], p, [], hW', by rw [hfn]; exact hres _ _ _, by rw [hfn]; exact hargs _ hold, hvars _, hb.frame _, fun h => by cases h⟩
theorem calls_of {P : Program} {Gl : Granted} {g : FuncId} {args : List AV} {u : Value} (h : Fun P Gl g args [] (.pv (.val u)) []) (w : World) (cargs : List Value) (hg : Gl.p w fun k => k < w.heap.size) (hl : cargs.length = args.length)
    (hr : ∀ (j : Nat) (x : AV) (c : Value), args[j]? = some x → cargs[j]? = some c → Rep w (fun k => k < w.heap.size) (fun _ => .dead) x c) : Calls P g cargs.toArray w fun e w' => e = .returned u ∧ Below w.heap.size w w' := by
  refine (h.calls w (fun k => k < w.heap.size) (fun _ => .dead) cargs hg ⟨fun k hk => hk, fun r s k _ h => h.elim, fun r k h => h.elim, fun r => rfl⟩ hl hr).mono fun e w' he => ?_
  obtain ⟨cv, F, hd, rfl, hrep, hlies, hleft⟩ := he
  refine ⟨by rw [bool_of hrep], ⟨hleft.os, hleft.tape, hleft.output, hleft.size, fun k hk => hleft.old k hk fun ⟨s, hs⟩ => hs.elim⟩⟩
end Go.Abs
namespace Go.Abs
open Go.RowKit Go.ChangeMaps Go.MapKept
open Go.Maps (Keyed Tidy IsMap)
section
variable {C : Ctx} {P : Program} {Gl : Granted} {T : TT} {n : Nat} {rs : List ResultVar} {v : AV} {post : List (Nm × Option Blk)} {ops : Array Oper} {i : Nat} {o : Oper} {opl : List Oper} {done : List Trace} {todo : List Item} {L : LS}
abbrev mapIs (P : Program) (k e : Nat) (D : DataW Unit) : Obj → Prop := mapQ P k e (· = D)
theorem Rd.makeIs (h : Rd C P Gl T n rs v post) {d t : Nat} (k e : Nat) (h1 : o.op = .makeMap t none) (h2 : o.dst = some d) (hs : Nat.blt d n = true ∧ guardOf ops o L = some true ∧ newOk L (.loc d) = true)
    (hnext : Go C (.reg ops false (i + 1) opl [] todo (L.app o.dst ⟨.hmap (.loc d), [(.loc d, some (.raw (mapIs P k e (.map []))))]⟩))) : Go C (.reg ops false i (o :: opl) done todo L) := by
  obtain ⟨h3, h4, h5⟩ := hs
  obtain ⟨n1, n2⟩ := newOk_spec h5
  have := h.prog
  subst this
  exact reg_step h4 (sem1_makeMap h2 (by rw [h.n]; exact Nat.blt_eq.mp h3) h1 k e (· = .map []) rfl) (by simp) (fun r hr => by
    simp [news] at hr
    subst hr
    exact ⟨n1, n2, by simp [mayMake1, h2, h1, makes]⟩) rfl hnext
theorem Rd.isGet (h : Rd C P Gl T n rs v post) {t k e : Nat} {q : IntKind} (ht : P.underlying t = some (.map k e)) (he : P.underlying e = some (.int q)) (hz : ∀ w, (zeroValue e).run P w = .ok (.int q 0) w) (K : Keyed P k) (r : Nm) {m x : Operand} {D : DataW Unit} {key : Value} {kl : Lit} {c : Int}
    (h1 : o.op = .lookup t m x false) (hkey : keyOf P k key = some kl) (hc : D.atKey kl (.lit (.int q 0)) = .lit (.int q c))
    (hs : guardOf ops o L = some true ∧ dstOk n o = true ∧ L.ev m = .hmap r ∧ L.ev x = .pv (.val key) ∧ L.blk r = some (.raw (mapIs P k e D)))
    (hnext : Go C (.reg ops false (i + 1) opl [] todo (L.app o.dst ⟨.pv (.val (.int q c)), []⟩))) : Go C (.reg ops false i (o :: opl) done todo L) := by
  obtain ⟨h2, h3, h4, h5, h6⟩ := hs
  have := h.prog
  subst this
  exact reg_step (fp := [(r, .raw (mapIs C.P k e D))]) h2 (sem1_lookup (fun d hd => by rw [h.n]; exact dstOk_spec h3 d hd) h1 ht he hz K (A := (· = D)) _ (.inr ⟨r, h4, by simp⟩) h5 hkey (fun D' hA => by rw [hA]; exact hc)) (by simpa using h6) (by simp [news]) rfl hnext
theorem Rd.isPut (h : Rd C P Gl T n rs v post) {t k e : Nat} (ht : P.underlying t = some (.map k e)) (K : Keyed P k) (r : Nm) {m x y : Operand} {D : DataW Unit} {key val : Value} {kl : Lit} {d : DataW Unit}
    (h1 : o.op = .mapUpdate t m x y) (hkey : keyOf P k key = some kl) (hval : plainElem P e val = some (d, [])) (hsz : Maps.size D < maxLen)
    (hs : guardOf ops o L = some true ∧ dstOk n o = true ∧ L.ev m = .hmap r ∧ L.ev x = .pv (.val key) ∧ L.ev y = .pv (.val val) ∧ L.blk r = some (.raw (mapIs P k e D)))
    (hnext : Go C (.reg ops false (i + 1) opl [] todo (L.app o.dst ⟨.any, [(r, some (.raw (mapIs P k e (D.put kl d))))]⟩))) : Go C (.reg ops false i (o :: opl) done todo L) := by
  obtain ⟨h2, h3, h4, h5, h6, h7⟩ := hs
  have := h.prog
  subst this
  exact reg_step h2 (sem1_update (fun d hd => by rw [h.n]; exact dstOk_spec h3 d hd) (.inl h1) ht K (A := (· = D)) (A' := (· = D.put kl d)) h4 h5 h6 hkey hval (fun D' _ hA => by rw [hA]; exact ⟨hsz, rfl⟩)) (by simpa using h7) (fun q hq => by simp [news, Nm.eqb_iff] at hq) rfl hnext
end
end Go.Abs
