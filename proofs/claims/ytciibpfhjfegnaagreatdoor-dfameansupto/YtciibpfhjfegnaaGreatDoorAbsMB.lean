/-
  .. of a map whose entry is still to be written.
-/
import Derived.Test.YtciibpfhjfegnaaGreatDoorAbsMA
set_option linter.unusedVariables false
set_option linter.unusedSimpArgs false
namespace Go.Abs
open Go.RowKit Go.ChangeMaps Go.MapKept
open Go.Maps (Keyed)
section
variable {C : Ctx} {o : Oper} {ev : Operand → AV}
theorem sem1_getD {r : Nm} {t k e : Nat} {m x : Operand} {ok : Bool} {p : Value × AV} (hdst : ∀ d, o.dst = some d → d < C.fn.ntmps) (ho : o.op = .lookup t m x ok) (ht : C.P.underlying t = some (.map k e)) (K : Keyed C.P k) {zero : AV} (hz : ∃ z, (∀ w, (zeroValue e).run C.P w = .ok z w) ∧ ∀ (w : World) (F : Nat → Prop) (hd : Nm → Hd), Rep w F hd zero z) {key : Value} {kl : Lit} {l : Ents} {y : AV}
    (hm : ev m = .hmap r) (hx : keyIs (ev x) key) (hkey : keyOf C.P k key = some kl) (hf : foundG (l ++ [p]) key zero ok y) :
    Sem1 C o ev [(r, .gen (mapD C.P k l p))] ⟨y, []⟩ := by
  refine sem1_read hdst fun L hd F a w hev hfp hi => ?_
  have e1 := hev m (by simp [ho, Op.operands])
  rw [hm] at e1
  have hb := hi.blocks r
  rw [hfp (r, .gen (mapD C.P k l p)) (by simp)] at hb
  obtain ⟨j, ob, q1, q2, q3⟩ := hb
  have e1 : a.eval m = .map (some j) := by cases e1 with | hmap _ _ _ h => exact h j q1
  obtain ⟨es, _, rfl, hG, _, _⟩ := q3 w F (fun _ _ => rfl) (fun _ h => h)
  have e2 := hx _ _ _ _ (hev x (by simp [ho, Op.operands]))
  obtain ⟨f1, f2⟩ := mapG_find K hG hkey
  obtain ⟨z, hz, hzr⟩ := hz
  rcases hf with ⟨h1, rfl⟩ | ⟨av, h1, rfl⟩
  · refine ⟨if ok then .tuple #[z, .bool false] else z, ?_, ?_⟩
    · simp [execOp, ho, e1, e2, Instr.lookup, run_underlying ht, getObj, Sem.run, q2, Result.andThen, K.check w _ hkey, f1 h1, hz]
      try cases ok <;> rfl
    · cases ok with
      | false => exact hzr w F hd
      | true => exact rep_pair (hzr w F hd) (rep_val rfl)
  · obtain ⟨i, v, g1, g2, g3⟩ := f2 av h1
    refine ⟨if ok then .tuple #[v, .bool true] else v, ?_, ?_⟩
    · simp [execOp, ho, e1, e2, Instr.lookup, run_underlying ht, getObj, Sem.run, q2, Result.andThen, K.check w _ hkey, g1]
      try cases ok <;> rfl
    · cases ok with
      | false => exact g2.bare g3
      | true => exact rep_pair (g2.bare g3) (rep_val rfl)
end
section
variable {C : Ctx} {P : Program} {Gl : Granted} {T : TT} {n : Nat} {rs : List ResultVar} {v : AV} {post : List (Nm × Option Blk)} {ops : Array Oper} {i m : Nat} {o : Oper} {L : LS} {Kp : LS → Prop} {listed : Array Bool}
theorem Rd.raGet (h : Rd C P Gl T n rs v post) {t k e : Nat} (ht : P.underlying t = some (.map k e)) (K : Keyed P k) (r : Nm) {mo x : Operand} {ok : Bool} {zero : AV} (hz : ∃ z, (∀ w, (zeroValue e).run P w = .ok z w) ∧ ∀ (w : World) (F : Nat → Prop) (hd : Nm → Hd), Rep w F hd zero z) {key : Value} {kl : Lit} {l : Ents} (y : AV)
    (ho : ops[i]? = some o) (h1 : o.op = .lookup t mo x ok) (hkey : keyOf P k key = some kl) (hf : foundG l key zero ok y) (hx : keyIs (L.ev x) key) (hs : guardOf ops o L = some true ∧ dstOk n o = true ∧ L.ev mo = .hmap r ∧ L.blk r = some (.gen (mapC P k l)))
    (hK : RA C ops Kp m (listed.setIfInBounds i true) (L.app o.dst ⟨y, []⟩)) : ∃ o L1 y vm, ops[i]? = some o ∧ Step1 C ops i o L L1 y vm ∧ RA C ops Kp m (listed.setIfInBounds i true) L1 := by
  obtain ⟨h2, h3, h4, h5⟩ := hs
  have := h.prog
  subst this
  exact ra_step ho h2 (sem1_getC (fun d hd => by rw [h.n]; exact dstOk_spec h3 d hd) h1 ht K hz h4 hx hkey hf) (by simpa using h5) (by simp [news]) hK
theorem Rd.raGetD (h : Rd C P Gl T n rs v post) {t k e : Nat} (ht : P.underlying t = some (.map k e)) (K : Keyed P k) (r : Nm) {mo x : Operand} {ok : Bool} {zero : AV} (hz : ∃ z, (∀ w, (zeroValue e).run P w = .ok z w) ∧ ∀ (w : World) (F : Nat → Prop) (hd : Nm → Hd), Rep w F hd zero z) {key : Value} {kl : Lit} {l : Ents} {p : Value × AV} (y : AV)
    (ho : ops[i]? = some o) (h1 : o.op = .lookup t mo x ok) (hkey : keyOf P k key = some kl) (hf : foundG (l ++ [p]) key zero ok y) (hx : keyIs (L.ev x) key) (hs : guardOf ops o L = some true ∧ dstOk n o = true ∧ L.ev mo = .hmap r ∧ L.blk r = some (.gen (mapD P k l p)))
    (hK : RA C ops Kp m (listed.setIfInBounds i true) (L.app o.dst ⟨y, []⟩)) : ∃ o L1 y vm, ops[i]? = some o ∧ Step1 C ops i o L L1 y vm ∧ RA C ops Kp m (listed.setIfInBounds i true) L1 := by
  obtain ⟨h2, h3, h4, h5⟩ := hs
  have := h.prog
  subst this
  exact ra_step ho h2 (sem1_getD (fun d hd => by rw [h.n]; exact dstOk_spec h3 d hd) h1 ht K hz h4 hx hkey hf) (by simpa using h5) (by simp [news]) hK
theorem Rd.raEntry (h : Rd C P Gl T n rs v post) {t k e : Nat} (ht : P.underlying t = some (.map k e)) (K : Keyed P k) (r : Nm) {mo x : Operand} {zero : AV} {z : Value} (hz : ∀ w, (zeroValue e).run P w = .ok z w) (hzr : ∀ (w : World) (F : Nat → Prop) (hd : Nm → Hd), Rep w F hd zero z) (hzm : zero.ments = []) {key : Value} {kl : Lit} {l : Ents}
    (ho : ops[i]? = some o) (h1 : o.op = .mapEntry t mo x) (hkey : keyOf P k key = some kl) (hf : ∀ p ∈ l, p.1 ≠ key) (hx : keyIs (L.ev x) key) (hs : guardOf ops o L = some true ∧ dstOk n o = true ∧ L.ev mo = .hmap r ∧ L.blk r = some (.gen (mapC P k l)))
    (hK : RA C ops Kp m (listed.setIfInBounds i true) (L.app o.dst ⟨.tup [zero, .pv (.val (.int .i64 (l.length : Nat)))], [(r, some (.gen (mapD P k l (key, zero))))]⟩)) : ∃ o L1 y vm, ops[i]? = some o ∧ Step1 C ops i o L L1 y vm ∧ RA C ops Kp m (listed.setIfInBounds i true) L1 := by
  obtain ⟨h2, h3, h4, h5⟩ := hs
  have := h.prog
  subst this
  exact ra_step ho h2 (sem1_entryC (fun d hd => by rw [h.n]; exact dstOk_spec h3 d hd) h1 ht K hz hzr hzm h4 hx hkey hf) (by simpa using h5) (fun q hq => by simp [news, Nm.eqb_iff] at hq) hK
theorem Rd.raStore (h : Rd C P Gl T n rs v post) {t k : Nat} (r : Nm) {mo s x : Operand} {key : Value} {zero av : AV} {l : Ents} (ho : ops[i]? = some o) (h1 : o.op = .entryStore t mo s x)
    (hs : guardOf ops o L = some true ∧ dstOk n o = true ∧ L.ev mo = .hmap r ∧ L.ev s = .pv (.val (.int .i64 (l.length : Nat))) ∧ L.ev x = av ∧ av.ments = [] ∧ L.blk r = some (.gen (mapD P k l (key, zero))))
    (hK : RA C ops Kp m (listed.setIfInBounds i true) (L.app o.dst ⟨.any, [(r, some (.gen (mapC P k (l ++ [(key, av)]))))]⟩)) : ∃ o L1 y vm, ops[i]? = some o ∧ Step1 C ops i o L L1 y vm ∧ RA C ops Kp m (listed.setIfInBounds i true) L1 := by
  obtain ⟨h2, h3, h4, h5, h6, h7, h8⟩ := hs
  have := h.prog
  subst this
  exact ra_step ho h2 (sem1_storeC (fun d hd => by rw [h.n]; exact dstOk_spec h3 d hd) h1 h4 h5 h6 h7) (by simpa using h8) (fun q hq => by simp [news, Nm.eqb_iff] at hq) hK
end
end Go.Abs
