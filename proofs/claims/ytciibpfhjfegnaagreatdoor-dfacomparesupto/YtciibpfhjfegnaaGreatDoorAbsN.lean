/-
  MAPS: of the call's own, and such as are only read; what goes through one.
-/
import Derived.Test.YtciibpfhjfegnaaGreatDoorAbsK
import Derived.Maps.Range
import Derived.Maps.Views
set_option linter.unusedVariables false
set_option linter.unusedSimpArgs false
namespace Go.Abs
open Go.RowKit Go.ChangeMaps Go.MapKept
open Go.WideElems (Fit rd rg pl)
open Go.Maps (Keyed Tidy IsMap)
def mapQ (P : Program) (k e : Nat) (A : DataW Unit → Prop) (o : Obj) : Prop :=
  ∃ es clock, o = .map es clock ∧ Fit P k (plainElem (H := Unit) P e) es clock ∧ A (.map ((es.toList.map (rg P k (plainElem P e))).foldr DataW.insert []))
theorem mapQ_owns {P : Program} {k e : Nat} {A : DataW Unit → Prop} {w : World} {b : Nat} {o : Obj} (h : w.heap[b]? = some o) (hq : mapQ P k e A o) : ∃ D, A D ∧ w.ownsMap P k (plainElem P e) b (Maps.size D) D := by
  obtain ⟨es, clock, rfl, F, hA⟩ := hq
  exact ⟨_, hA, es, clock, h, F, by simp [Maps.size, length_sorted], rfl⟩
theorem owns_mapQ {P : Program} {k e : Nat} {A : DataW Unit → Prop} {w : World} {b n : Nat} {D : DataW Unit} (h : w.ownsMap P k (plainElem P e) b n D) (hA : A D) : ∃ o, w.heap[b]? = some o ∧ mapQ P k e A o := by
  obtain ⟨es, clock, hb, F, hs, rfl⟩ := h
  exact ⟨_, hb, es, clock, rfl, F, hA⟩
theorem mapQ_made {P : Program} {k e : Nat} {A : DataW Unit → Prop} (h : A (.map [])) : mapQ P k e A (.map #[] 0) :=
  ⟨#[], 0, rfl, ⟨by simp, stamped_empty 0, by simp⟩, h⟩
def Clean (D : DataW Unit) : Prop := ∃ es, D = .map es ∧ es.Pairwise (fun p q => p.1 ≠ q.1) ∧ ∀ p ∈ es, WideAt.IsKeyLit p.1
theorem Clean.isMap {D : DataW Unit} (h : Clean D) : IsMap D := let ⟨es, e, _⟩ := h; ⟨es, e⟩
theorem inv_obj {C : Ctx} {L : LS} {hd : Nm → Hd} {F : Nat → Prop} {a : Act} {w : World} (hi : Inv C L hd F a w) {r : Nm} (hna : ∀ i, r ≠ .arg i) (hb : L.blk r = none) (hf : L.Fresh r) (o : Obj) (b : Blk)
    (hB : ∀ hd', hd' r = .box w.heap.size → HoldB (w.alloc o) F hd' r (some b)) :
    ∃ hd', Inv C (L.upd [(r, some b)]) hd' F a (w.alloc o) ∧ hd' r = .box w.heap.size := by
  have hdead : hd r = .dead := by have := hi.blocks r; rw [hb] at this; exact this
  have hold : ∀ k, k < w.heap.size → (w.alloc o).heap[k]? = w.heap[k]? := fun k hk => Below.heap_alloc _ _ _ hk
  refine ⟨fun s => if s = r then .box w.heap.size else hd s, inv_upd hi _ _ (fun _ => False) rfl rfl rfl (by simp) (fun k hk _ => hold k hk) (fun k h => h.elim) (fun s hs => ?_) (fun s b' hs => ?_) (fun s hs => ?_) (fun r' s k hne h1 h2 => ?_) (fun r' k hk => ?_), by simp⟩
  · have : s ≠ r := fun e => hs (by simp [e])
    simp [this]
  · by_cases hsr : s = r
    · subst hsr
      simp only [upsGet, if_true, Option.some.injEq] at hs
      subst hs
      exact hB _ (by simp)
    · have : r ≠ s := fun e => hsr e.symm
      simp [upsGet, this] at hs
  · simp at hs
    subst hs
    exact .inr (.inr ⟨hf, hna⟩)
  · by_cases e1 : r' = r
    · by_cases e2 : s = r
      · exact hne (e1.trans e2.symm)
      · rw [if_pos e1] at h1
        rw [if_neg e2] at h2
        have := (hi.mine s k h2).2.1
        have h1 : w.heap.size = k := h1
        omega
    · rw [if_neg e1] at h1
      by_cases e2 : s = r
      · rw [if_pos e2] at h2
        have := (hi.mine r' k h1).2.1
        have h2 : w.heap.size = k := h2
        omega
      · rw [if_neg e2] at h2
        exact hi.sep r' s k hne h1 h2
  · by_cases e1 : r' = r
    · rw [if_pos e1] at hk
      have hk : w.heap.size = k := hk
      exact ⟨.inr (by omega), by simp [← hk]⟩
    · rw [if_neg e1] at hk
      have := (hi.mine r' k hk).2.1
      exact ⟨.inl ⟨r', hk⟩, by simp; omega⟩
theorem inv_turn {C : Ctx} {L : LS} {hd : Nm → Hd} {F : Nat → Prop} {a : Act} {w w' : World} (hi : Inv C L hd F a w) {r : Nm} {k : Nat} (hk : hd r = .box k) (b : Blk) (hg : w.grownBy w' (some k)) (hsz : w'.heap.size = w.heap.size)
    (hB : HoldB w' F hd r (some b)) : Inv C (L.upd [(r, some b)]) hd F a w' := by
  refine inv_upd hi _ hd (fun j => j = k) hg.os hg.tape hg.output hg.size (fun j hj hne => hg.block j hj (by simpa using hne)) (fun j hj => ⟨r, by rw [hk]; exact hj.symm⟩) (fun s hs => ⟨rfl, fun j hj hjk => ?_⟩) (fun s b' hs => ?_) (fun s _ => .inl rfl) hi.sep (fun r' j hj => ⟨.inl ⟨r', hj⟩, ?_⟩)
  · have hne : s ≠ r := fun e => hs (by simp [e])
    exact hi.sep s r j hne hj (by rw [hk]; exact hjk.symm)
  · by_cases hsr : s = r
    · subst hsr
      simp only [upsGet, if_true, Option.some.injEq] at hs
      subst hs
      exact hB
    · have : r ≠ s := fun e => hsr e.symm
      simp [upsGet, this] at hs
  · have := (hi.mine r' j hj).2.1
    rw [hsz]
    exact this
section
variable {C : Ctx} {o : Oper} {ev : Operand → AV}
theorem sem1_makeMap {d : Nat} {t : TypeId} (hd : o.dst = some d) (hn : d < C.fn.ntmps) (ho : o.op = .makeMap t none) (k e : Nat) (A : DataW Unit → Prop) (hA : A (.map [])) :
    Sem1 C o ev [] ⟨.hmap (.loc d), [(.loc d, some (.raw (mapQ C.P k e A)))]⟩ := by
  refine sem1_of (fun d' h => by rw [hd] at h; cases h; exact hn) fun L hd' F a w hev hfp hnew hi => ?_
  obtain ⟨m1, m2⟩ := hnew (.loc d) (by simp [news])
  obtain ⟨hd2, h1, h2⟩ := inv_obj hi (r := .loc d) (by simp) m1 m2 (.map #[] 0) (.raw (mapQ C.P k e A)) (fun hd2 h => ⟨_, _, h, heap_alloc_new w _, mapQ_made hA⟩)
  refine ⟨.map (some w.heap.size), _, hd2, F, .inl ?_, h1, .hmap _ _ rfl fun k hk => by rw [h2] at hk; cases hk; rfl⟩
  simp [execOp, ho, run_makeMap, Result.andThen]
theorem sem1_update {r : Nm} {t : TypeId} {m x v : Operand} {k e : Nat} (hdst : ∀ d, o.dst = some d → d < C.fn.ntmps) (ho : o.op = .mapUpdate t m x v ∨ o.op = .insert t m x v) (ht : C.P.underlying t = some (.map k e)) (K : Keyed C.P k) {A A' : DataW Unit → Prop} {key val : Value} {kl : Lit} {d : DataW Unit} {ps : List MemPlace}
    (hm : ev m = .hmap r) (hx : ev x = .pv (.val key)) (hv : ev v = .pv (.val val)) (hkey : keyOf C.P k key = some kl) (hval : plainElem C.P e val = some (d, ps)) (hA : ∀ D, Clean D → A D → Maps.size D < maxLen ∧ A' (D.put kl d)) :
    Sem1 C o ev [(r, .raw (mapQ C.P k e A))] ⟨.any, [(r, some (.raw (mapQ C.P k e A')))]⟩ := by
  refine sem1_of hdst fun L hd F a w hev hfp hnew hi => ?_
  have e1 := hev m (by rcases ho with ho | ho <;> simp [ho, Op.operands])
  have e2 := hev x (by rcases ho with ho | ho <;> simp [ho, Op.operands])
  have e3 := hev v (by rcases ho with ho | ho <;> simp [ho, Op.operands])
  rw [hm] at e1
  rw [hx] at e2
  rw [hv] at e3
  have e2 := bool_of e2
  have e3 := bool_of e3
  have hb := hi.blocks r
  rw [hfp (r, .raw (mapQ C.P k e A)) (by simp)] at hb
  obtain ⟨j, ob, q1, q2, q3⟩ := hb
  have e1 : a.eval m = .map (some j) := by cases e1 with | hmap _ _ _ h => exact h j q1
  obtain ⟨D, hD, hown⟩ := mapQ_owns q2 q3
  obtain ⟨s1, s2⟩ := hA D (hown.entries K) hD
  obtain ⟨w', r1, r2, r3⟩ := hown.store K ht s1 hkey hval
  have hg := r3.grown
  have hsz : w'.heap.size = w.heap.size := by
    obtain ⟨_, _, _, _, _, rfl⟩ := r3
    simp [setBlock]
  obtain ⟨o', p1, p2⟩ := owns_mapQ (A := A') r2 s2
  refine ⟨_, w', hd, F, .inr ⟨?_, rfl⟩, inv_turn hi q1 _ hg hsz ⟨j, o', q1, p1, p2⟩, .any _⟩
  rcases ho with ho | ho <;> simp [execOp, ho, e1, e2, e3, r1, Result.andThen]
theorem sem1_lookup {t : TypeId} {m x : Operand} {k e : Nat} {q : IntKind} (hdst : ∀ d, o.dst = some d → d < C.fn.ntmps) (ho : o.op = .lookup t m x false) (ht : C.P.underlying t = some (.map k e)) (he : C.P.underlying e = some (.int q)) (hz : ∀ w, (zeroValue e).run C.P w = .ok (.int q 0) w) (K : Keyed C.P k) {A : DataW Unit → Prop} {key : Value} {kl : Lit} {c : Int}
    (fp : List (Nm × Blk)) (hm : (∃ Q, ev m = .rom Q ∧ (∀ o, Q o → mapQ C.P k e A o)) ∨ ∃ r, ev m = .hmap r ∧ (r, Blk.raw (mapQ C.P k e A)) ∈ fp) (hx : ev x = .pv (.val key)) (hkey : keyOf C.P k key = some kl) (hA : ∀ D, A D → D.atKey kl (.lit (.int q 0)) = .lit (.int q c)) :
    Sem1 C o ev fp ⟨.pv (.val (.int q c)), []⟩ := by
  refine sem1_read hdst fun L hd F a w hev hfp hi => ?_
  have e1 := hev m (by simp [ho, Op.operands])
  have e2 := hev x (by simp [ho, Op.operands])
  rw [hx] at e2
  have e2 := bool_of e2
  have hmap : ∃ j ob, a.eval m = .map (some j) ∧ w.heap[j]? = some ob ∧ mapQ C.P k e A ob := by
    rcases hm with ⟨Q, hm, hQ⟩ | ⟨r, hm, hr⟩
    · rw [hm] at e1
      generalize a.eval m = z at e1
      cases e1 with | rom _ j ob h1 h2 h3 => exact ⟨j, ob, rfl, h2, hQ _ h3⟩
    · rw [hm] at e1
      have hb := hi.blocks r
      rw [hfp _ hr] at hb
      obtain ⟨j, ob, q1, q2, q3⟩ := hb
      exact ⟨j, ob, by cases e1 with | hmap _ _ _ h => exact h j q1, q2, q3⟩
  obtain ⟨j, ob, e1, q2, q3⟩ := hmap
  obtain ⟨D, hD, hown⟩ := mapQ_owns q2 q3
  obtain ⟨c', hrun, hat, _⟩ := hown.lookup_int K ht he (hz w) hkey
  have := hA D hD
  rw [hat] at this
  simp only [DataW.lit.injEq, Lit.int.injEq, true_and] at this
  subst this
  exact ⟨_, by simp [execOp, ho, e1, e2, hrun, Result.andThen], rep_val rfl⟩
theorem sem1_lenMap {t : TypeId} {m : Operand} {c : Call} {k e : Nat} (hdst : ∀ d, o.dst = some d → d < C.fn.ntmps) (ho : o.op = .call c) (hc : c.callee = .builtin .len) (hx' : c.args = #[m]) (hts : c.argTypes = #[t]) (ht : C.P.underlying t = some (.map k e)) {A : DataW Unit → Prop} {n : Int}
    {r : Nm} (hm : ev m = .hmap r) (hA : ∀ D, Clean D → A D → (Maps.size D : Int) = n) (K : Keyed C.P k) : Sem1 C o ev [(r, .raw (mapQ C.P k e A))] ⟨.pv (.val (.int .i64 n)), []⟩ := by
  refine sem1_read hdst fun L hd F a w hev hfp hi => ?_
  have e1 := hev m (by simp [ho, Op.operands, Call.operands, hx', hc])
  rw [hm] at e1
  have hb := hi.blocks r
  rw [hfp (r, .raw (mapQ C.P k e A)) (by simp)] at hb
  obtain ⟨j, ob, q1, q2, q3⟩ := hb
  have e1 : a.eval m = .map (some j) := by cases e1 with | hmap _ _ _ h => exact h j q1
  obtain ⟨D, hD, hown⟩ := mapQ_owns q2 q3
  have hn := hA D (hown.entries K) hD
  have hrun := hown.len ht o.type
  rw [hn] at hrun
  exact ⟨_, by simp [execOp, ho, resolve, hc, hx', hts, invoke, builtin, e1, hrun, Result.andThen], rep_val rfl⟩
def iterQ (P : Program) (k e : Nat) (A : DataW Unit → Prop) (T : Lit → Prop) (last : Option (Value × Value)) (b : Nat) (ob o : Obj) : Prop :=
  (∀ kv, last = some kv → ∀ (w : World) (r : Nat), w.heap[b]? = some ob → w.heap[r]? = some o → (Instr.entry (.pointer (some ⟨r, 0, none⟩))).run P w = .ok (.tuple #[kv.1, kv.2]) w) ∧ ∃ D left cnt, A D ∧ (∀ (w : World) (r : Nat), w.heap[b]? = some ob → w.heap[r]? = some o → w.ranges P k (plainElem P e) b r (Maps.size D) D left cnt) ∧ ∀ kl, left kl = true ↔ Maps.has D kl = true ∧ ¬ T kl
theorem entry_any {P : Program} {k e b r n : Nat} {D : DataW Unit} {left : Lit → Bool} {cnt : Nat} {w w' : World} (h : w.ranges P k (plainElem P e) b r n D left cnt) {r' : Nat} (hb : w'.heap[b]? = w.heap[b]?) (hr : w'.heap[r']? = w.heap[r]?) {z : Value}
    (he : (Instr.entry (.pointer (some ⟨r, 0, none⟩))).run P w = .ok z w) : (Instr.entry (.pointer (some ⟨r', 0, none⟩))).run P w' = .ok z w' := by
  obtain ⟨es, clock, since, seen, c0, h1, F, hs, hD, h2, rest⟩ := h
  rw [h1] at hb
  rw [h2] at hr
  simp only [Instr.entry, getObj, Sem.run_bind, Sem.run, h2, hr, Result.andThen] at he ⊢
  cases hbk : seen.back? with
  | none => rw [hbk] at he; simp [stuck] at he
  | some st =>
    rw [hbk] at he
    simp only [Sem.run_bind, Sem.run, h1, hb, Result.andThen] at he ⊢
    by_cases hc : (clock != c0) = true
    · simp [hc, unsupported] at he
    · simp only [hc] at he ⊢
      cases hf : es.find? (fun x => x.born == st) with
      | none => simp [hf, unsupported] at he
      | some x =>
        simp only [hf] at he ⊢
        simp at he ⊢
        exact he
theorem ranges_any {P : Program} {k e b r n : Nat} {D : DataW Unit} {left : Lit → Bool} {cnt : Nat} {w : World} (h : w.ranges P k (plainElem P e) b r n D left cnt) :
    ∃ ob o, w.heap[b]? = some ob ∧ w.heap[r]? = some o ∧ ∀ (w' : World) (r' : Nat), w'.heap[b]? = some ob → w'.heap[r']? = some o → w'.ranges P k (plainElem P e) b r' (Maps.size D) D left cnt := by
  obtain ⟨es, clock, since, seen, c0, hb, F, hs, hD, hr, rest⟩ := h
  exact ⟨_, _, hb, hr, fun w' r' h1 h2 => ⟨es, clock, since, seen, c0, h1, F, by subst hD; simp [Maps.size, length_sorted], hD, h2, rest⟩⟩
theorem sem1_range {d : Nat} {t : TypeId} {m : Operand} {k e : Nat} {Q : Obj → Prop} (hd : o.dst = some d) (hn : d < C.fn.ntmps) (ho : o.op = .range t m) (ht : C.P.underlying t = some (.map k e)) (K : Keyed C.P k) {A : DataW Unit → Prop} (hm : ev m = .rom Q) (hQ : ∀ o, Q o → mapQ C.P k e A o) :
    Sem1 C o ev [] ⟨.ptr (.loc d) 0, [(.loc d, some (.iter (iterQ C.P k e A (fun _ => False) none)))]⟩ := by
  refine sem1_of (fun d' h => by rw [hd] at h; cases h; exact hn) fun L hd' F a w hev hfp hnew hi => ?_
  obtain ⟨m1, m2⟩ := hnew (.loc d) (by simp [news])
  have e1 := hev m (by simp [ho, Op.operands])
  rw [hm] at e1
  generalize hz : a.eval m = z at e1
  cases e1 with
  | rom _ j ob h1 h2 h3 =>
    obtain ⟨D, hD, hown⟩ := mapQ_owns h2 (hQ _ h3)
    obtain ⟨es, clock, hb, F', hs, rfl⟩ := hown
    have hown : w.ownsMap C.P k (plainElem C.P e) j (Maps.size (DataW.map ((es.toList.map (rg C.P k (plainElem C.P e))).foldr DataW.insert []))) (DataW.map ((es.toList.map (rg C.P k (plainElem C.P e))).foldr DataW.insert [])) := ⟨es, clock, hb, F', hs, rfl⟩
    obtain ⟨w', hrun, hr, _⟩ := hown.range K ht
    have hrun' := run_range_map w t k e j es clock ht hb
    rw [hrun] at hrun'
    have hw : w' = w.alloc (.mapIter (some j) clock #[] clock) := by
      have := hrun'
      simp only [Result.ok.injEq] at this
      exact this.2
    subst hw
    obtain ⟨ob', o', p1, p2, p3⟩ := ranges_any hr
    have hjl : j < w.heap.size := (hi.fin j h1).1
    have hold : (w.alloc (.mapIter (some j) clock #[] clock)).heap[j]? = w.heap[j]? := Below.heap_alloc _ _ _ hjl
    obtain ⟨hd2, g1, g2⟩ := inv_obj hi (r := .loc d) (by simp) m1 m2 (.mapIter (some j) clock #[] clock) (.iter (iterQ C.P k e A (fun _ => False) none)) (fun hd2 h => ⟨_, o', j, ob', h, p2, h1, p1, (fun kv h => by cases h), _, _, _, hD, p3, fun kl => by simp⟩)
    refine ⟨_, _, hd2, F, .inl ?_, g1, .ptr _ 0 (.pointer (some ⟨w.heap.size, 0, none⟩)) rfl fun k hk => by rw [g2] at hk; cases hk; rfl⟩
    simp [execOp, ho, hz, hrun, Result.andThen]
theorem stepN_next {L : LS} {ops : Array Oper} {it : Operand} {r : Nm} {k e : Nat} (hg : guardOf ops o L = some true) (hdst : ∀ d, o.dst = some d → d < C.fn.ntmps) (ho : o.op = .next it false) (K : Keyed C.P k) (hk1 : ∀ key kl, keyOf C.P k key = some kl → key.oneCell' = true) {A : DataW Unit → Prop} {T : Lit → Prop} {last : Option (Value × Value)}
    (hit : L.ev it = .ptr r 0) (hb : L.blk r = some (.iter (iterQ C.P k e A T last))) :
    StepN C ops o L fun L' => (∃ D, A D ∧ (∀ kl, Maps.has D kl = true → T kl) ∧ L' = L.put o.dst (.tup [.pv (.val (.bool false))])) ∨
      ∃ D kl key v y, A D ∧ Maps.has D kl = true ∧ ¬ T kl ∧ keyOf C.P k key = some kl ∧ plainElem (H := Unit) C.P e v = some y ∧ (∀ zd, D.atKey kl zd = y.1) ∧
        L' = (L.upd [(r, some (.iter (iterQ C.P k e A (fun x => T x ∨ x = kl) (some (key, v)))))]).put o.dst (.tup [.pv (.val (.bool true)), .pv (.val key), .pv (.val v)]) := by
  refine ⟨hg, fun hd F a w hi J Q hJ => ?_⟩
  have e1 := ev_rep hi it
  rw [hit] at e1
  have hbb := hi.blocks r
  rw [hb] at hbb
  obtain ⟨j, oj, b, ob, q1, q2, q3, q4, _, D, left, cnt, hD, hr, hl⟩ := hbb
  have e1 : a.eval it = .pointer (some ⟨j, 0, none⟩) := by cases e1 with | ptr _ _ _ _ h => exact h j q1
  have hr0 := hr w j q4 q2
  unfold Oper.wp
  rcases hr0.next K o.type with ⟨_, h0, hrun⟩ | ⟨key, v, kl, y, w', cnt', s1, s2, s3, s4, hrun, s5, s6, s7, s8, s9⟩
  · have : (execOp a.eval o).run C.P w = .ok (.value (.tuple #[.bool false])) w := by simp [execOp, ho, e1, hrun, Result.andThen]
    rw [this]
    refine hJ _ _ _ hd F (.inl ⟨D, hD, fun kl hkl => ?_, rfl⟩) (hi.put o.dst (.tup _ [.bool false] rfl fun j c u h1 h2 => ?_) hdst)
    · cases hc : left kl with
      | true => rw [h0 kl] at hc; cases hc
      | false =>
        have := hl kl
        rw [hc] at this
        exact Classical.byContradiction fun hn => by simpa using this.2 ⟨hkl, hn⟩
    · cases j with
      | zero => simp at h1 h2; subst h1 h2; exact rep_val rfl
      | succ j => simp at h1
  · have : (execOp a.eval o).run C.P w = .ok (.value (.tuple #[.bool true, key, v])) w' := by simp [execOp, ho, e1, hrun, Result.andThen]
    rw [this]
    obtain ⟨h1, h2⟩ := (hl kl).1 s2
    obtain ⟨ob', oj', p1, p2, p3⟩ := ranges_any s5
    have hbF : b ≠ j := fun e => (hi.mine r j (by rw [q1]; exact rfl)).1 (e ▸ q3)
    have hinv := inv_turn hi q1 (.iter (iterQ C.P k e A (fun x => T x ∨ x = kl) (some (key, v)))) s7 s8 ⟨j, oj', b, ob', q1, p2, q3, p1, (fun kv h => by
      cases h
      exact fun w2 r2 a1 a2 => entry_any s5 (a1.trans p1.symm) (a2.trans p2.symm) s9), D, _, cnt', hD, p3, fun x => by
      simp only [Bool.and_eq_true, Bool.not_eq_true', hl x]
      constructor
      · rintro ⟨⟨a1, a2⟩, a3⟩
        refine ⟨a1, fun h => ?_⟩
        rcases h with h | h
        · exact a2 h
        · subst h; rw [WideAt.sameKey_self (K.key s1)] at a3; cases a3
      · rintro ⟨a1, a2⟩
        refine ⟨⟨a1, fun h => a2 (.inl h)⟩, ?_⟩
        cases hs : x.sameKey kl
        · rfl
        · exact absurd (.inr (WideAt.sameKey_eq hs)) a2⟩
    have hv1 : v.oneCell' = true := by
      unfold plainElem at s3
      split at s3
      · rfl
      · rfl
      · rfl
      · cases s3
    refine hJ _ _ _ hd F (.inr ⟨D, kl, key, v, y, hD, h1, h2, s1, s3, s4, rfl⟩) (hinv.put o.dst (.tup _ [.bool true, key, v] rfl fun j c u h1 h2 => ?_) hdst)
    match j, h1, h2 with
    | 0, h1, h2 => simp at h1 h2; subst h1 h2; exact rep_val rfl
    | 1, h1, h2 => simp at h1 h2; subst h1 h2; exact rep_val (hk1 _ _ s1)
    | 2, h1, h2 => simp at h1 h2; subst h1 h2; exact rep_val hv1
theorem sem1_entry {it : Operand} {r : Nm} {k e : Nat} (hdst : ∀ d, o.dst = some d → d < C.fn.ntmps) (ho : o.op = .entry it) {A : DataW Unit → Prop} {T : Lit → Prop} {kv : Value × Value} (h1 : kv.1.oneCell' = true) (h2 : kv.2.oneCell' = true)
    (hit : ev it = .ptr r 0) : Sem1 C o ev [(r, .iter (iterQ C.P k e A T (some kv)))] ⟨.tup [.pv (.val kv.1), .pv (.val kv.2)], []⟩ := by
  refine sem1_read hdst fun L hd F a w hev hfp hi => ?_
  have e1 := hev it (by simp [ho, Op.operands])
  rw [hit] at e1
  have hb := hi.blocks r
  rw [hfp (r, .iter (iterQ C.P k e A T (some kv))) (by simp)] at hb
  obtain ⟨j, oj, b, ob, q1, q2, q3, q4, hlast, _⟩ := hb
  have e1 : a.eval it = .pointer (some ⟨j, 0, none⟩) := by cases e1 with | ptr _ _ _ _ h => exact h j q1
  refine ⟨_, by simp [execOp, ho, e1, hlast kv rfl w j q4 q2, Result.andThen], .tup _ [kv.1, kv.2] rfl fun j c u h3 h4 => ?_⟩
  match j, h3, h4 with
  | 0, h3, h4 => simp at h3 h4; subst h3 h4; exact rep_val h1
  | 1, h3, h4 => simp at h3 h4; subst h3 h4; exact rep_val h2
end
end Go.Abs
namespace Go.Abs
open Go.RowKit Go.ChangeMaps Go.MapKept
open Go.Maps (Keyed Tidy IsMap)
structure SetD (N : Nat) (S : Nat → Prop) (D : DataW Unit) : Prop where
  has : ∀ kl, Maps.has D kl = true ↔ ∃ i : Nat, kl = .int .i64 i ∧ S i
  le : ∀ i, S i → i ≤ N
  val : ∀ i z, S i → D.atKey (.int .i64 (i : Nat)) z = .lit (.int .i64 1)
open Classical in
noncomputable def cardN (N : Nat) (S : Nat → Prop) : Nat := ((List.range (N + 1)).filter fun i => decide (S i)).length
theorem cardN_le (N : Nat) (S : Nat → Prop) : cardN N S ≤ N + 1 := by
  unfold cardN
  have := List.length_filter_le (fun i => @decide (S i) (Classical.propDecidable _)) (List.range (N + 1))
  simpa using this
theorem filter_mono {α : Type} {p q : α → Bool} (h : ∀ x, p x = true → q x = true) : ∀ l : List α, (l.filter p).Sublist (l.filter q)
  | [] => by simp
  | x :: l => by
    have ih := filter_mono h l
    cases hp : p x
    · cases hq : q x
      · simpa [hp, hq] using ih
      · simpa [hp, hq] using ih.cons x
    · simpa [hp, h x hp] using ih.cons_cons x
theorem cardN_mono {N : Nat} {S T : Nat → Prop} (h : ∀ i, S i → T i) : cardN N S ≤ cardN N T := by
  unfold cardN
  exact (filter_mono (fun i hi => by simpa using h i (by simpa using hi)) _).length_le
theorem cardN_eq {N : Nat} {S T : Nat → Prop} (h : ∀ i, S i → T i) (he : cardN N T = cardN N S) (i : Nat) (hN : i ≤ N) (hi : T i) : S i := by
  unfold cardN at he
  have hs := filter_mono (p := fun i => @decide (S i) (Classical.propDecidable _)) (q := fun i => @decide (T i) (Classical.propDecidable _)) (fun i hi => by simpa using h i (by simpa using hi)) (List.range (N + 1))
  have := hs.eq_of_length he.symm
  have hm : i ∈ (List.range (N + 1)).filter (fun i => @decide (T i) (Classical.propDecidable _)) := by simp [hi]; omega
  rw [← this] at hm
  simpa using (List.mem_filter.1 hm).2
theorem cardN_lt {N : Nat} {S T : Nat → Prop} (h : ∀ i, S i → T i) (i : Nat) (hN : i ≤ N) (hi : T i) (hn : ¬ S i) : cardN N S < cardN N T := by
  rcases Nat.lt_or_ge (cardN N S) (cardN N T) with h1 | h1
  · exact h1
  · exact absurd (cardN_eq h (Nat.le_antisymm h1 (cardN_mono h)) i hN hi) hn
theorem SetD.empty (N : Nat) : SetD N (fun _ => False) (.map []) := ⟨fun kl => by simp [Maps.has], fun i h => h.elim, fun i z h => h.elim⟩
theorem key_int (i : Int) : WideAt.IsKeyLit (.int .i64 i) := by simp [WideAt.IsKeyLit]
theorem SetD.put {N : Nat} {S : Nat → Prop} {D : DataW Unit} (h : SetD N S D) (hD : IsMap D) {i : Nat} (hi : i ≤ N) : SetD N (fun j => S j ∨ j = i) (D.put (.int .i64 (i : Nat)) (.lit (.int .i64 1))) := by
  refine ⟨fun kl => ?_, fun j hj => ?_, fun j z hj => ?_⟩
  · by_cases hk : kl = .int .i64 (i : Nat)
    · subst hk
      rw [Maps.has_put_same hD (key_int _)]
      simp
      exact ⟨i, rfl, .inr rfl⟩
    · rw [Maps.has_put_other hk, h.has kl]
      constructor
      · rintro ⟨j, rfl, hj⟩; exact ⟨j, rfl, .inl hj⟩
      · rintro ⟨j, rfl, hj | rfl⟩
        · exact ⟨j, rfl, hj⟩
        · exact absurd rfl hk
  · rcases hj with hj | rfl
    · exact h.le j hj
    · exact hi
  · by_cases hji : j = i
    · subst hji; exact Maps.atKey_put_same hD (key_int _) _ _
    · rw [Maps.atKey_put_other (by simp; omega)]
      exact h.val j z (by rcases hj with hj | hj; exact hj; exact absurd hj hji)
theorem nodup_map_int : ∀ (l : List (Lit × DataW Unit)) (m : List Nat), l.Pairwise (fun p q => p.1 ≠ q.1) → (∀ p ∈ l, ∃ i ∈ m, p.1 = .int .i64 (i : Nat)) → l.length ≤ m.length
  | [], m, _, _ => by simp
  | p :: l, m, hp, hm => by
    obtain ⟨h1, h2⟩ := List.pairwise_cons.1 hp
    obtain ⟨i, hi, e⟩ := hm p (by simp)
    have := nodup_map_int l (m.erase i) h2 (fun q hq => by
      obtain ⟨j, hj, e'⟩ := hm q (by simp [hq])
      refine ⟨j, ?_, e'⟩
      have : j ≠ i := fun h => h1 q hq (by rw [e, e', h])
      exact (List.mem_erase_of_ne this).2 hj)
    rw [List.length_erase_of_mem hi] at this
    have : 0 < m.length := List.length_pos_of_mem hi
    simp
    omega
theorem len_le_map : ∀ (m : List Nat) (l : List (Lit × DataW Unit)), m.Nodup → (∀ i ∈ m, ∃ p ∈ l, p.1 = .int .i64 (i : Nat)) → m.length ≤ l.length
  | [], l, _, _ => by simp
  | i :: m, l, hn, hm => by
    obtain ⟨h1, h2⟩ := List.nodup_cons.1 hn
    obtain ⟨p, hp, e⟩ := hm i (by simp)
    obtain ⟨l1, l2, rfl⟩ := List.append_of_mem hp
    have := len_le_map m (l1 ++ l2) h2 (fun j hj => by
      obtain ⟨q, hq, e'⟩ := hm j (by simp [hj])
      refine ⟨q, ?_, e'⟩
      rcases List.mem_append.1 hq with h | h
      · simp [h]
      · rcases List.mem_cons.1 h with rfl | h
        · rw [e] at e'
          simp at e'
          exact absurd (by omega : i = j) (fun e => h1 (e ▸ hj))
        · simp [h])
    simp at this ⊢
    omega
theorem SetD.size {N : Nat} {S : Nat → Prop} {D : DataW Unit} (h : SetD N S D) (hT : Clean D) : Maps.size D = cardN N S := by
  obtain ⟨es, rfl, hp, hk⟩ := hT
  have hmem : ∀ p ∈ es, ∃ i ∈ (List.range (N + 1)).filter (fun i => @decide (S i) (Classical.propDecidable _)), p.1 = .int .i64 (i : Nat) := by
    intro p hp'
    have : Maps.has (.map es) p.1 = true := List.any_eq_true.2 ⟨p, hp', WideAt.sameKey_self (hk p hp')⟩
    obtain ⟨i, e, hi⟩ := (h.has p.1).1 this
    have := h.le i hi
    exact ⟨i, by simp [hi]; omega, e⟩
  refine Nat.le_antisymm (nodup_map_int es _ hp hmem) (len_le_map _ es (List.nodup_range.filter _) fun i hi => ?_)
  simp at hi
  obtain ⟨p, hp', e⟩ := List.any_eq_true.1 ((h.has (.int .i64 (i : Nat))).2 ⟨i, rfl, hi.2⟩)
  exact ⟨p, hp', WideAt.sameKey_eq e⟩
abbrev setQ (P : Program) (k e N : Nat) (S : Nat → Prop) : Obj → Prop := mapQ P k e (SetD N S)
end Go.Abs
