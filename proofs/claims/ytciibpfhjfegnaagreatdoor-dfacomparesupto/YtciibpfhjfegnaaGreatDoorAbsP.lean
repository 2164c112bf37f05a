/-
  SETS OF PLACES at the operations of a call under way.
-/
import Derived.Test.YtciibpfhjfegnaaGreatDoorAbsN
import Derived.Maps.RangeWalk
set_option linter.unusedVariables false
set_option linter.unusedSimpArgs false
namespace Go.Abs
open Go.RowKit Go.ChangeMaps Go.MapKept
open Go.Maps (Keyed Tidy IsMap)
structure IntMap (P : Program) (t k e : Nat) : Prop where
  ht : P.underlying t = some (.map k e)
  hk : P.underlying k = some (.int .i64)
  he : P.underlying e = some (.int .i64)
  zero : ∀ w, (zeroValue e).run P w = .ok (.int .i64 0) w
abbrev iterS (P : Program) (k e N : Nat) (S T : Nat → Prop) (last : Option Nat) : Nat → Obj → Obj → Prop :=
  iterQ P k e (SetD N S) (fun kl => ∃ i : Nat, kl = .int .i64 i ∧ T i) (last.map fun i => (.int .i64 (i : Nat), .int .i64 1))
theorem wf64 {i : Int} (h : -9223372036854775808 ≤ i ∧ i < 9223372036854775808) : (Lit.int .i64 i).wf = true := by
  have e1 : IntKind.i64.min = -9223372036854775808 := by decide
  have e2 : IntKind.i64.max = 9223372036854775807 := by decide
  simp only [Lit.wf, e1, e2, Bool.and_eq_true, decide_eq_true_eq]
  omega
section
variable {C : Ctx} {P : Program} {Gl : Granted} {T : TT} {n : Nat} {rs : List ResultVar} {v : AV} {post : List (Nm × Option Blk)} {ops : Array Oper} {i : Nat} {o : Oper} {opl : List Oper} {done : List Trace} {todo : List Item} {L : LS}
theorem Rd.makeSet (h : Rd C P Gl T n rs v post) {d t : Nat} (k e N : Nat) (h1 : o.op = .makeMap t none) (h2 : o.dst = some d) (hs : Nat.blt d n = true ∧ guardOf ops o L = some true ∧ newOk L (.loc d) = true)
    (hnext : Go C (.reg ops false (i + 1) opl [] todo (L.app o.dst ⟨.hmap (.loc d), [(.loc d, some (.raw (setQ P k e N fun _ => False)))]⟩))) : Go C (.reg ops false i (o :: opl) done todo L) := by
  obtain ⟨h3, h4, h5⟩ := hs
  obtain ⟨n1, n2⟩ := newOk_spec h5
  have := h.prog
  subst this
  exact reg_step h4 (sem1_makeMap h2 (by rw [h.n]; exact Nat.blt_eq.mp h3) h1 k e _ (SetD.empty N)) (by simp) (fun r hr => by
    simp [news] at hr
    subst hr
    exact ⟨n1, n2, by simp [mayMake1, h2, h1, makes]⟩) rfl hnext
theorem Rd.setPut (h : Rd C P Gl T n rs v post) {t k e : Nat} (hM : IntMap P t k e) (r : Nm) {m x y : Operand} {N j : Nat} {S : Nat → Prop} (hN : N + 1 < maxLen) (hj : j ≤ N)
    (h1 : o.op = .mapUpdate t m x y ∨ o.op = .insert t m x y) (hs : guardOf ops o L = some true ∧ dstOk n o = true ∧ L.ev m = .hmap r ∧ L.ev x = .pv (.val (.int .i64 (j : Nat))) ∧ L.ev y = .pv (.val (.int .i64 1)) ∧ L.blk r = some (.raw (setQ P k e N S)))
    (hnext : Go C (.reg ops false (i + 1) opl [] todo (L.app o.dst ⟨.any, [(r, some (.raw (setQ P k e N fun i => S i ∨ i = j)))]⟩))) : Go C (.reg ops false i (o :: opl) done todo L) := by
  obtain ⟨h2, h3, h4, h5, h6, h7⟩ := hs
  have := h.prog
  subst this
  have hj64 : (Lit.int .i64 (j : Nat)).wf = true := wf64 (by simp only [maxLen] at hN; omega)
  exact reg_step h2 (sem1_update (fun d hd => by rw [h.n]; exact dstOk_spec h3 d hd) h1 hM.ht (Maps.int_keyed hM.hk) h4 h5 h6 (Maps.keyOf_int_mk hM.hk hj64) (plainElem_int hM.he (by decide)) (A := SetD N S) (A' := SetD N fun i => S i ∨ i = j) (fun D hD hA => ⟨by
    rw [hA.size hD]
    have := cardN_le N S
    omega, hA.put hD.isMap hj⟩)) (by simpa using h7) (fun q hq => by simp [news, Nm.eqb_iff] at hq) rfl hnext
open Classical in
theorem Rd.setHas (h : Rd C P Gl T n rs v post) {t k e : Nat} (hM : IntMap P t k e) {m x : Operand} {N j : Nat} {S : Nat → Prop} (hj : j < 9223372036854775808)
    (h1 : o.op = .lookup t m x false) (hs : guardOf ops o L = some true ∧ dstOk n o = true ∧ L.ev m = .rom (setQ P k e N S) ∧ L.ev x = .pv (.val (.int .i64 (j : Nat))))
    (hnext : Go C (.reg ops false (i + 1) opl [] todo (L.app o.dst ⟨.pv (.val (.int .i64 (if S j then 1 else 0))), []⟩))) : Go C (.reg ops false i (o :: opl) done todo L) := by
  obtain ⟨h2, h3, h4, h5⟩ := hs
  have := h.prog
  subst this
  refine reg_step (fp := []) h2 (sem1_lookup (fun d hd => by rw [h.n]; exact dstOk_spec h3 d hd) h1 hM.ht hM.he hM.zero (Maps.int_keyed hM.hk) (A := SetD N S) [] (.inl ⟨_, h4, fun o ho => ho⟩) h5 (Maps.keyOf_int_mk hM.hk (wf64 (by omega))) (fun D hA => ?_)) (by simp) (by simp [news]) rfl hnext
  by_cases hS : S j
  · rw [hA.val j _ hS, if_pos hS]
  · rw [if_neg hS]
    refine Maps.atKey_of_not_has ?_ _
    cases hh : Maps.has D (.int .i64 (j : Nat)) with
    | false => rfl
    | true =>
      obtain ⟨i, e, hi⟩ := (hA.has _).1 hh
      simp at e
      have : i = j := by omega
      exact absurd (this ▸ hi) hS
theorem Rd.setLen (h : Rd C P Gl T n rs v post) {t k e : Nat} (hM : IntMap P t k e) (r : Nm) {m : Operand} {N : Nat} {S : Nat → Prop}
    (h1 : o.op = .call { callee := .builtin .len, args := #[m], argTypes := #[t] }) (hs : guardOf ops o L = some true ∧ dstOk n o = true ∧ L.ev m = .hmap r ∧ L.blk r = some (.raw (setQ P k e N S)))
    (hnext : Go C (.reg ops false (i + 1) opl [] todo (L.app o.dst ⟨.pv (.val (.int .i64 (cardN N S : Nat))), []⟩))) : Go C (.reg ops false i (o :: opl) done todo L) := by
  obtain ⟨h2, h3, h4, h5⟩ := hs
  have := h.prog
  subst this
  exact reg_step h2 (sem1_lenMap (fun d hd => by rw [h.n]; exact dstOk_spec h3 d hd) h1 rfl rfl rfl hM.ht h4 (fun D hD hA => by rw [SetD.size hA hD]) (Maps.int_keyed hM.hk)) (by simpa using h5) (by simp [news]) rfl hnext
theorem Rd.setRange (h : Rd C P Gl T n rs v post) {t k e : Nat} (hM : IntMap P t k e) {d : Nat} {m : Operand} {N : Nat} {S : Nat → Prop}
    (h1 : o.op = .range t m) (h2 : o.dst = some d) (hs : Nat.blt d n = true ∧ guardOf ops o L = some true ∧ newOk L (.loc d) = true ∧ L.ev m = .rom (setQ P k e N S))
    (hnext : Go C (.reg ops false (i + 1) opl [] todo (L.app o.dst ⟨.ptr (.loc d) 0, [(.loc d, some (.iter (iterS P k e N S (fun _ => False) none)))]⟩))) : Go C (.reg ops false i (o :: opl) done todo L) := by
  obtain ⟨h3, h4, h5, h6⟩ := hs
  obtain ⟨n1, n2⟩ := newOk_spec h5
  have := h.prog
  subst this
  have e0 : (fun kl : Lit => ∃ i : Nat, kl = Lit.int .i64 i ∧ False) = fun _ => False := by funext kl; simp
  refine reg_step h4 (sem1_range h2 (by rw [h.n]; exact Nat.blt_eq.mp h3) h1 hM.ht (Maps.int_keyed hM.hk) h6 (fun o ho => ho)) (by simp) (fun r hr => by
    simp [news] at hr
    subst hr
    exact ⟨n1, n2, by simp [mayMake1, h2, h1, makes]⟩) rfl ?_
  simp only [iterS, e0, Option.map_none] at hnext
  exact hnext
theorem Rd.setNext (h : Rd C P Gl T n rs v post) {t k e : Nat} (hM : IntMap P t k e) (r : Nm) {it : Operand} {N : Nat} {S M : Nat → Prop} {last : Option Nat}
    (h1 : o.op = .next it false) (hs : guardOf ops o L = some true ∧ dstOk n o = true ∧ L.ev it = .ptr r 0 ∧ L.blk r = some (.iter (iterS P k e N S M last)))
    (hdone : (∀ j, S j → M j) → Go C (.reg ops false (i + 1) opl [] todo (L.put o.dst (.tup [.pv (.val (.bool false))]))))
    (hstep : ∀ j, S j → ¬ M j → j ≤ N → Go C (.reg ops false (i + 1) opl [] todo ((L.upd [(r, some (.iter (iterS P k e N S (fun i => M i ∨ i = j) (some j))))]).put o.dst (.tup [.pv (.val (.bool true)), .pv (.val (.int .i64 (j : Nat))), .pv (.val (.int .i64 1))])))) :
    Go C (.reg ops false i (o :: opl) done todo L) := by
  obtain ⟨h2, h3, h4, h5⟩ := hs
  have := h.prog
  subst this
  refine reg_stepN _ (stepN_next h2 (fun d hd => by rw [h.n]; exact dstOk_spec h3 d hd) h1 (Maps.int_keyed hM.hk) (fun key kl hk => by
    obtain ⟨x, rfl, _⟩ := Maps.keyOf_int_inv hM.hk hk
    rfl) h4 h5) fun L1 hL1 => ?_
  rcases hL1 with ⟨D, hD, hall, rfl⟩ | ⟨D, kl, key, val, y, hD, hh, hn, hkey, hval, hat, rfl⟩
  · refine hdone fun j hj => ?_
    obtain ⟨i, e, hi⟩ := hall _ ((hD.has (.int .i64 (j : Nat))).2 ⟨j, rfl, hj⟩)
    simp at e
    have : j = i := by omega
    exact this ▸ hi
  · obtain ⟨j, rfl, hj⟩ := (hD.has kl).1 hh
    obtain ⟨x, rfl, e1, _⟩ := Maps.keyOf_int_inv hM.hk hkey
    simp at e1
    obtain ⟨a, rfl, rfl, _⟩ := plainElem_int_inv hM.he hval
    have h1' := hat (.lit (.int .i64 0))
    rw [hD.val j _ hj] at h1'
    simp at h1'
    subst h1' e1
    have hM' : ¬ M j := fun hm => hn ⟨j, rfl, hm⟩
    have e0 : (fun x : Lit => (∃ i : Nat, x = Lit.int .i64 i ∧ M i) ∨ x = Lit.int .i64 (j : Nat)) = fun kl => ∃ i : Nat, kl = Lit.int .i64 i ∧ (M i ∨ i = j) := by
      funext kl
      apply propext
      constructor
      · rintro (⟨i, rfl, hi⟩ | rfl)
        · exact ⟨i, rfl, .inl hi⟩
        · exact ⟨j, rfl, .inr rfl⟩
      · rintro ⟨i, rfl, hi | rfl⟩
        · exact .inl ⟨i, rfl, hi⟩
        · exact .inr rfl
    have hst := hstep j hj hM' (hD.le j hj)
    simp only [iterS, Option.map_some] at hst
    rw [e0]
    exact hst
theorem Rd.setEntry (h : Rd C P Gl T n rs v post) (r : Nm) {it : Operand} {k e N j : Nat} {S M : Nat → Prop}
    (h1 : o.op = .entry it) (hs : guardOf ops o L = some true ∧ dstOk n o = true ∧ L.ev it = .ptr r 0 ∧ L.blk r = some (.iter (iterS P k e N S M (some j))))
    (hnext : Go C (.reg ops false (i + 1) opl [] todo (L.app o.dst ⟨.tup [.pv (.val (.int .i64 (j : Nat))), .pv (.val (.int .i64 1))], []⟩))) : Go C (.reg ops false i (o :: opl) done todo L) := by
  obtain ⟨h2, h3, h4, h5⟩ := hs
  have := h.prog
  subst this
  exact reg_step h2 (sem1_entry (fun d hd => by rw [h.n]; exact dstOk_spec h3 d hd) h1 (kv := (.int .i64 (j : Nat), .int .i64 1)) rfl rfl h4) (by simpa [iterS] using h5) (by simp [news]) rfl hnext
end
theorem fun_own {P : Program} {Gl : Granted} {g : FuncId} {a b : List AV} {Q : Obj → Prop} {v : AV} (ha : ∀ x ∈ a ++ b, x.ments = []) (hv : v.ments = []) (h : Fun P Gl g (a ++ .rom Q :: b) [] v []) : Fun P Gl g (a ++ .hmap (.arg 0) :: b) [some (.raw Q)] v [none] := by
  refine ⟨h.fn, fun w0 F0 hd0 cargs hg hl hlen hr => ?_⟩
  have h0 := hl.holds (.arg 0)
  simp [keyed, lkH, Nm.eqb] at h0
  obtain ⟨k, o, q1, q2, q3⟩ := h0
  have hk := hl.mine (.arg 0) k (by rw [q1]; exact rfl)
  have hx : ∀ (x : AV) (c : Value), Rep w0 F0 hd0 x c → x.ments = [] → Rep w0 (fun j => F0 j ∨ j = k) (fun _ => .dead) x c := fun x c hc hm => hc.mono (fun _ _ => rfl) (fun _ h => .inl h) fun r hr => by rw [hm] at hr; cases hr
  refine (h.calls w0 (fun j => F0 j ∨ j = k) (fun _ => .dead) cargs (Gl.mono hg (fun _ _ => rfl) fun _ h => .inl h) ⟨fun j hj => ?_, fun r s j _ hj => hj.elim, fun r j hj => hj.elim, fun r => rfl⟩ (by simpa using hlen) fun j x c hj hc => ?_).mono fun e w' he => ?_
  · rcases hj with hj | rfl
    · exact hl.fin j hj
    · exact hk.2
  · by_cases hja : j < a.length
    · rw [List.getElem?_append_left hja] at hj
      exact hx x c (hr j x c (by rw [List.getElem?_append_left hja]; exact hj) hc) (ha x (List.mem_append.2 (.inl (List.mem_of_getElem? hj))))
    · rw [List.getElem?_append_right (by omega)] at hj
      have hr' := fun y => hr j y c
      rw [List.getElem?_append_right (by omega)] at hr'
      cases hm : j - a.length with
      | zero =>
        rw [hm] at hj hr'
        simp at hj
        subst hj
        have := hr' (.hmap (.arg 0)) (by simp) hc
        cases this with
        | hmap _ _ _ hh =>
          obtain rfl := hh k q1
          exact .rom Q k o (.inr rfl) q2 q3
      | succ m =>
        rw [hm] at hj hr'
        simp at hj
        exact hx x c (hr' x (by simpa using hj) hc) (ha x (List.mem_append.2 (.inr (List.mem_of_getElem? hj))))
  · obtain ⟨cv, F, hd, rfl, hrep, hlies, hleft⟩ := he
    have hd' : ∀ r, hd r = .dead := fun r => hlies.holds r
    refine ⟨cv, F, hd, rfl, hrep, ⟨hlies.fin, hlies.sep, hlies.mine, fun r => ?_⟩, ⟨fun r j hj => ?_, fun j hj => ?_, fun j hj => hleft.more j (.inl hj), fun i => .inr (hd' _), hleft.os, hleft.tape, hleft.output, hleft.size, fun j hj hn => hleft.old j hj fun ⟨s, hs⟩ => hs.elim⟩⟩
    · have : lkH (keyed 0 [none]) r = none := by simp [keyed, lkH]
      rw [this]
      exact hd' r
    · rw [hd' r] at hj; exact hj.elim
    · rcases hleft.fin j hj with (h1 | rfl) | h1 | ⟨s, hs⟩
      · exact .inl h1
      · exact .inr (.inr ⟨.arg 0, by rw [q1]; exact rfl⟩)
      · exact .inr (.inl h1)
      · exact hs.elim
end Go.Abs
namespace Go.Abs
open Go.RowKit
theorem fun_args {P : Program} {Gl : Granted} {g : FuncId} {args args' : List AV} {pre post : List (Option Blk)} {v : AV} (h : Fun P Gl g args pre v post) (hl : args'.length = args.length)
    (ha : ∀ (j : Nat) (x y : AV), args'[j]? = some x → args[j]? = some y → ∀ (w : World) (F : Nat → Prop) (hd : Nm → Hd) (c : Value), Rep w F hd x c → Rep w F hd y c) : Fun P Gl g args' pre v post := by
  refine ⟨h.fn, fun w0 F0 hd0 cargs hg hli hlen hr => h.calls w0 F0 hd0 cargs hg hli (hlen.trans hl) fun j y c hj hc => ?_⟩
  have : j < args'.length := by rw [hl]; exact (List.getElem?_eq_some_iff.1 hj).1
  exact ha j _ y (List.getElem?_eq_getElem this) hj _ _ _ _ (hr j _ c (List.getElem?_eq_getElem this) hc)
theorem rep_nil {sz sz' : Nat} {w : World} {F : Nat → Prop} {hd : Nm → Hd} {c : Value} (h : Rep w F hd (.pv (.nilS sz')) c) : Rep w F hd (.pv (.ro sz [])) c := by
  cases h with
  | pv _ _ hp =>
    cases hp
    exact .pv _ _ (.ro sz [] none 0 (fun _ _ => undef) (fun _ => rfl) (by simp) (by simp) (fun i e h => by simp at h) (fun h => absurd rfl h) (fun i j e c h => by simp at h))
theorem nil_row {x : AV} {sz sz' : Nat} (j : Nat) (y z : AV) (h1 : [x, .pv (.nilS sz')][j]? = some y) (h2 : [x, .pv (.ro sz [])][j]? = some z) (w : World) (F : Nat → Prop) (hd : Nm → Hd) (c : Value) (h : Rep w F hd y c) : Rep w F hd z c := by
  match j, h1, h2 with
  | 0, h1, h2 => simp at h1 h2; subst h1 h2; exact h
  | 1, h1, h2 => simp at h1 h2; subst h1 h2; exact rep_nil h
theorem fun_ownRow {P : Program} {Gl : Granted} {g : FuncId} {a b : List AV} {e sz : Nat} {es : List (List PV)} {v : AV} (ha : ∀ x ∈ a ++ b, x.ments = []) (hv : v.ments = []) (h : Fun P Gl g (a ++ .pv (.ro sz es) :: b) [] v []) : Fun P Gl g (a ++ .own (.arg 0) :: b) [some (.row e sz es)] v [none] := by
  refine ⟨h.fn, fun w0 F0 hd0 cargs hg hl hlen hr => ?_⟩
  have h0 := hl.holds (.arg 0)
  simp [keyed, lkH, Nm.eqb] at h0
  obtain ⟨u, cells, q1, q2, q3, q4, q5⟩ := h0
  have hk : ∀ k, u.ownBlock = some k → ¬ F0 k ∧ k < w0.heap.size := fun k hk => hl.mine (.arg 0) k (by rw [q1]; exact hk)
  have hx : ∀ (x : AV) (c : Value), Rep w0 F0 hd0 x c → x.ments = [] → Rep w0 (fun j => F0 j ∨ u.ownBlock = some j) (fun _ => .dead) x c := fun x c hc hm => hc.mono (fun _ _ => rfl) (fun _ h => .inl h) fun r hr => by rw [hm] at hr; cases hr
  refine (h.calls w0 (fun j => F0 j ∨ u.ownBlock = some j) (fun _ => .dead) cargs (Gl.mono hg (fun _ _ => rfl) fun _ h => .inl h) ⟨fun j hj => ?_, fun r s j _ hj => hj.elim, fun r j hj => hj.elim, fun r => rfl⟩ (by simpa using hlen) fun j x c hj hc => ?_).mono fun e' w' he => ?_
  · rcases hj with hj | hj
    · exact hl.fin j hj
    · exact (hk j hj).2
  · by_cases hja : j < a.length
    · rw [List.getElem?_append_left hja] at hj
      exact hx x c (hr j x c (by rw [List.getElem?_append_left hja]; exact hj) hc) (ha x (List.mem_append.2 (.inl (List.mem_of_getElem? hj))))
    · rw [List.getElem?_append_right (by omega)] at hj
      have hr' := fun y => hr j y c
      rw [List.getElem?_append_right (by omega)] at hr'
      cases hm : j - a.length with
      | zero =>
        rw [hm] at hj hr'
        simp at hj
        subst hj
        have := hr' (.own (.arg 0)) (by simp) hc
        cases this with
        | own _ _ _ hh =>
          obtain rfl := hh u q1
          exact .pv _ _ (row_ro q2 q3 (fun i j el c u' a1 a2 a3 => (q4 i j el c u' a1 a2 a3).mono (fun _ _ => rfl) (fun _ h => .inl h)) (fun k hk' => .inr hk'))
      | succ m =>
        rw [hm] at hj hr'
        simp at hj
        exact hx x c (hr' x (by simpa using hj) hc) (ha x (List.mem_append.2 (.inr (List.mem_of_getElem? hj))))
  · obtain ⟨cv, F, hd, rfl, hrep, hlies, hleft⟩ := he
    have hd' : ∀ r, hd r = .dead := fun r => hlies.holds r
    refine ⟨cv, F, hd, rfl, hrep, ⟨hlies.fin, hlies.sep, hlies.mine, fun r => ?_⟩, ⟨fun r j hj => ?_, fun j hj => ?_, fun j hj => hleft.more j (.inl hj), fun i => .inr (hd' _), hleft.os, hleft.tape, hleft.output, hleft.size, fun j hj hn => hleft.old j hj fun ⟨s, hs⟩ => hs.elim⟩⟩
    · have : lkH (keyed 0 [none]) r = none := by simp [keyed, lkH]
      rw [this]
      exact hd' r
    · rw [hd' r] at hj; exact hj.elim
    · rcases hleft.fin j hj with (h1 | h1) | h1 | ⟨s, hs⟩
      · exact .inl h1
      · exact .inr (.inr ⟨.arg 0, by rw [q1]; exact h1⟩)
      · exact .inr (.inl h1)
      · exact hs.elim
end Go.Abs
