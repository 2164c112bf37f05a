/-
  MAPS of which the whole reading is known, at the operations of a call under way.
-/
import Derived.Test.YtonomogpephfkaaDoorB1
set_option linter.unusedVariables false
set_option linter.unusedSimpArgs false
namespace Go.Abs
open Go.RowKit Go.ChangeMaps Go.MapKept
open Go.Maps (Keyed Tidy IsMap)
section
variable {C : Ctx} {P : Program} {Gl : Granted} {T : TT} {n : Nat} {rs : List ResultVar} {v : AV} {post : List (Option Blk)} {ops : Array Oper} {i : Nat} {o : Oper} {opl : List Oper} {done : List Trace} {todo : List Item} {L : LS}
abbrev mapIs (P : Program) (k e : Nat) (D : DataW Unit) : Obj → Prop := mapQ P k e (· = D)
theorem Rd.makeIs (h : Rd C P Gl T n rs v post) {d t : Nat} (k e : Nat) (h1 : o.op = .makeMap t none) (h2 : o.dst = some d) (hs : Nat.blt d n = true ∧ guardOf ops o L = some true ∧ newOk L (.loc d) = true)
    (hnext : Go C (.reg ops false (i + 1) opl [] todo (L.app o.dst ⟨.hmap (.loc d), [(.loc d, some (.raw (mapIs P k e (.map []))))]⟩))) : Go C (.reg ops false i (o :: opl) done todo L) := by
  obtain ⟨h3, h4, h5⟩ := hs
  obtain ⟨n1, n2⟩ := newOk_spec h5
  have := h.prog
  subst this
  exact reg_step h4 (sem1_makeMap h2 (by rw [h.n]; exact Nat.blt_eq.mp h3) h1 k e (· = .map []) rfl) (by simp) (fun r hr => by
    simp [news] at hr
    subst hr
    exact ⟨n1, n2, by simp [mayMake1, h2, h1, makes]⟩) rfl hnext
theorem Rd.isGet (h : Rd C P Gl T n rs v post) {t k e : Nat} {q : IntKind} (ht : P.underlying t = some (.map k e)) (he : P.underlying e = some (.int q)) (hz : ∀ w, (zeroValue e).run P w = .ok (.int q 0) w) (K : Keyed P k) (r : Nm) {m x : Operand} {D : DataW Unit} {key : Value} {kl : Lit} {c : Int}
    (h1 : o.op = .lookup t m x false) (hkey : keyOf P k key = some kl) (hc : D.atKey kl (.lit (.int q 0)) = .lit (.int q c))
    (hs : guardOf ops o L = some true ∧ dstOk n o = true ∧ L.ev m = .hmap r ∧ L.ev x = .pv (.val key) ∧ L.blk r = some (.raw (mapIs P k e D)))
    (hnext : Go C (.reg ops false (i + 1) opl [] todo (L.app o.dst ⟨.pv (.val (.int q c)), []⟩))) : Go C (.reg ops false i (o :: opl) done todo L) := by
  obtain ⟨h2, h3, h4, h5, h6⟩ := hs
  have := h.prog
  subst this
  exact reg_step (fp := [(r, .raw (mapIs C.P k e D))]) h2 (sem1_lookup (fun d hd => by rw [h.n]; exact dstOk_spec h3 d hd) h1 ht he hz K (A := (· = D)) _ (.inr ⟨r, h4, by simp⟩) h5 hkey (fun D' hA => by rw [hA]; exact hc)) (by simpa using h6) (by simp [news]) rfl hnext
theorem Rd.isPut (h : Rd C P Gl T n rs v post) {t k e : Nat} (ht : P.underlying t = some (.map k e)) (K : Keyed P k) (r : Nm) {m x y : Operand} {D : DataW Unit} {key val : Value} {kl : Lit} {d : DataW Unit}
    (h1 : o.op = .mapUpdate t m x y) (hkey : keyOf P k key = some kl) (hval : plainElem P e val = some (d, [])) (hsz : Maps.size D < maxLen)
    (hs : guardOf ops o L = some true ∧ dstOk n o = true ∧ L.ev m = .hmap r ∧ L.ev x = .pv (.val key) ∧ L.ev y = .pv (.val val) ∧ L.blk r = some (.raw (mapIs P k e D)))
    (hnext : Go C (.reg ops false (i + 1) opl [] todo (L.app o.dst ⟨.any, [(r, some (.raw (mapIs P k e (D.put kl d))))]⟩))) : Go C (.reg ops false i (o :: opl) done todo L) := by
  obtain ⟨h2, h3, h4, h5, h6, h7⟩ := hs
  have := h.prog
  subst this
  exact reg_step h2 (sem1_update (fun d hd => by rw [h.n]; exact dstOk_spec h3 d hd) (.inl h1) ht K (A := (· = D)) (A' := (· = D.put kl d)) h4 h5 h6 hkey hval (fun D' _ hA => by rw [hA]; exact ⟨hsz, rfl⟩)) (by simpa using h7) (fun q hq => by simp [news, Nm.eqb_iff] at hq) rfl hnext
end
end Go.Abs
