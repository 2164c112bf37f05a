/-
  ROWS SEEN OTHERWISE; is a slice nil?
-/
import Derived.Test.YtciibpfhjfegnaaGreatDoorAbsLR
import Derived.Lib.SliceRun
set_option linter.unusedVariables false
set_option linter.unusedSimpArgs false
namespace Go.Abs
open Go.RowKit
theorem go_blk {C : Ctx} {todo : List Item} {L : LS} (r : Nm) (b b' : Blk) (hb : L.blk r = some b) (hh : ∀ w F hd, HoldB w F hd r (some b) → HoldB w F hd r (some b')) (hk : Go C (.top todo (L.upd [(r, some b')]))) : Go C (.top todo L) := by
  intro hd F a w hi cs
  refine hk hd F a w { hi with slots := fun t => hi.slots t, blocks := fun s => ?_, ntmps := hi.ntmps, defers := hi.defers } cs
  have h1 := hi.blocks s
  rw [upd_get]
  by_cases hs : r = s
  · subst hs
    rw [hb] at h1
    simpa [upsGet] using hh w F hd h1
  · simpa [upsGet, hs] using h1
theorem repP_empty {w : World} {F : Nat → Prop} {n m : Nat} {v : Value} (h : RepP w F (.ro n []) v) : RepP w F (.ro m []) v := by
  cases h with
  | ro _ _ A cap u hA hc hm hl ha hr => exact .ro m [] A cap u hA hc hm (fun i e h => by simp at h) (fun h => absurd rfl h) (fun i j e c h => by simp at h)
def likeP (c c' : PV) : Prop := c = c' ∨ ∃ n m, c = .ro n [] ∧ c' = .ro m []
theorem likeP_rep {w : World} {F : Nat → Prop} {c c' : PV} {v : Value} (h : likeP c c') (hc : RepP w F c v) : RepP w F c' v := by
  rcases h with rfl | ⟨n, m, rfl, rfl⟩
  · exact hc
  · exact repP_empty hc
theorem hold_like {w : World} {F : Nat → Prop} {hd : Nm → Hd} {r : Nm} {e sz : Nat} {es es' : List (List PV)} (hl : es'.length = es.length)
    (hc : ∀ (i : Nat) (el' : List PV), es'[i]? = some el' → ∃ el, es[i]? = some el ∧ el'.length = el.length ∧ ∀ (j : Nat) (c' : PV), el'[j]? = some c' → ∃ c, el[j]? = some c ∧ likeP c c')
    (h : HoldB w F hd r (some (.row e sz es))) : HoldB w F hd r (some (.row e sz es')) := by
  obtain ⟨v, cells, h1, h2, h3, h4, h5⟩ := h
  refine ⟨v, cells, h1, by rw [hl]; exact h2, fun i el' hi => ?_, fun i j el' c' u hi hj hu => ?_, h5⟩
  · obtain ⟨el, g1, g2, _⟩ := hc i el' hi
    rw [g2]; exact h3 i el g1
  · obtain ⟨el, g1, _, g3⟩ := hc i el' hi
    obtain ⟨c, k1, k2⟩ := g3 j c' hj
    exact likeP_rep k2 (h4 i j el c u g1 k1 hu)
theorem hold_last {w : World} {F : Nat → Prop} {hd : Nm → Hd} {r : Nm} {e : Nat} {es : List (List PV)} {n m : Nat} (h : HoldB w F hd r (some (.row e 1 (es ++ [[.ro n []]])))) : HoldB w F hd r (some (.row e 1 (es ++ [[.ro m []]]))) := by
  refine hold_like (by simp) (fun i el' hi => ?_) h
  by_cases hlt : i < es.length
  · rw [List.getElem?_append_left hlt] at hi ⊢
    exact ⟨el', hi, rfl, fun j c' hj => ⟨c', hj, .inl rfl⟩⟩
  · rw [List.getElem?_append_right (by omega)] at hi ⊢
    match hk : i - es.length, hi with
    | 0, hi =>
      simp at hi
      subst hi
      refine ⟨[.ro n []], rfl, rfl, fun j c' hj => ?_⟩
      match j, hj with
      | 0, hj => simp at hj; subst hj; exact ⟨_, rfl, .inr ⟨_, _, rfl, rfl⟩⟩
section
variable {C : Ctx} {P : Program} {Gl : Granted} {T : TT} {n : Nat} {rs : List ResultVar} {v : AV} {post : List (Nm × Option Blk)} {ops : Array Oper} {i : Nat} {o : Oper} {opl : List Oper} {done : List Trace} {todo : List Item} {L : LS}
theorem Rd.isNil (h : Rd C P Gl T n rs v post) {t e ty : Nat} (ht : P.underlying t = some (.slice e)) {x : Operand} {sz : Nat} {es : List (List PV)} (h1 : o.op = .binOp .eql t x (.const (.slice none 0 0)) ty)
    (hs : guardOf ops o L = some true ∧ dstOk n o = true ∧ L.ev x = .pv (.ro sz es))
    (hnext : ∀ b : Bool, (es ≠ [] → b = false) → Go C (.reg ops false (i + 1) opl [] todo (L.put o.dst (.pv (.val (.bool b)))))) : Go C (.reg ops false i (o :: opl) done todo L) := by
  obtain ⟨h2, h3, h4⟩ := hs
  have := h.prog
  subst this
  refine reg_stepN (fun L1 => ∃ b : Bool, (es ≠ [] → b = false) ∧ L1 = L.put o.dst (.pv (.val (.bool b)))) ⟨h2, fun hd F a w hi J Q hJ => ?_⟩ fun L1 ⟨b, hb, e⟩ => by subst e; exact hnext b hb
  have e1 := ev_rep hi x
  rw [h4] at e1
  generalize hz : a.eval x = z at e1
  cases e1 with
  | pv _ _ hp => cases hp with
    | ro _ _ A cap u hA hc hm hl ha hr =>
      have hrun : (execOp a.eval o).run C.P w = .ok (.value (.bool A.isNone)) w := by
        simp only [execOp, h1, hz]
        have : a.eval (.const (.slice none 0 0)) = .slice none 0 0 := rfl
        rw [this]
        simp only [Sem.run_bind]
        rw [show eqGuard .eql t x (.const (.slice none 0 0)) (.slice A es.length cap) (.slice none 0 0) = pure () from rfl]
        simp [Lib.run_eql_slice_nil w t e A es.length cap 0 0 ht, Result.andThen]
      unfold Oper.wp
      rw [hrun]
      refine hJ _ _ _ hd F ⟨A.isNone, fun hne => ?_, rfl⟩ (hi.put o.dst (.pv _ _ (.val _ rfl)) fun k hk => by rw [h.n]; exact dstOk_spec h3 k hk)
      obtain ⟨ad, g, _⟩ := ha hne
      rw [g]; rfl
end
end Go.Abs
namespace Go.Abs
open Go.RowKit
def layHd (r : Nm) (hd : Nm → Hd) (s : Nm) : Hd := if s = r then .dead else hd s
def layF (r : Nm) (hd : Nm → Hd) (F : Nat → Prop) (k : Nat) : Prop := F k ∨ (hd r).owns k
def evAt (ev : Operand → AV) (t : Nat) (x : AV) : Operand → AV
  | .tmp s => if s = t then x else ev (.tmp s)
  | y => ev y
theorem inv_lay {C : Ctx} {L : LS} {hd : Nm → Hd} {F : Nat → Prop} {a : Act} {w : World} (hi : Inv C L hd F a w) {r : Nm} {e sz t : Nat} {es : List (List PV)} (hb : L.blk r = some (.row e sz es)) (ht : L.get t = .own r) :
    Inv C ((L.upd [(r, none)]).put (some t) (.pv (.ro sz es))) (layHd r hd) (layF r hd F) a w := by
  have hF : ∀ k, F k → layF r hd F k := fun k hk => .inl hk
  have hdead : ∀ s, layHd r hd s = hd s ∨ layHd r hd s = .dead := fun s => by
    unfold layHd
    split
    · exact .inr rfl
    · exact .inl rfl
  have hown : ∀ s k, (layHd r hd s).owns k → (hd s).owns k ∧ s ≠ r := fun s k hk => by
    unfold layHd at hk
    split at hk
    · exact hk.elim
    · exact ⟨hk, by assumption⟩
  have hrow := hi.blocks r
  rw [hb] at hrow
  obtain ⟨v, cells, q1, q2, q3, q4, q5⟩ := hrow
  have hval : a.tmps.getD t undef = v := by
    have := hi.slots t
    rw [ht] at this
    generalize a.tmps.getD t undef = z at this
    cases this with
    | own _ _ _ h => exact h v q1
  have hro : RepP w (layF r hd F) (.ro sz es) v := row_ro q2 q3 (fun i j el c u h1 h2 h3 => (q4 i j el c u h1 h2 h3).mono (fun _ _ => rfl) hF) fun k hk => .inr (by rw [q1]; exact hk)
  refine { slots := fun s => ?_, blocks := fun s => ?_, sep := fun s s' k hne h1 h2 => ?_, mine := fun s k hk => ?_, fin := fun k hk => ?_, more := fun k hk => .inl (hi.more k hk), kept := fun i => ?_, gl := ?_, os := hi.os, tape := hi.tape, output := hi.output, size := hi.size, old := hi.old, ntmps := hi.ntmps, defers := hi.defers }
  · rw [put_get]
    split
    · rename_i hts
      cases hts
      rw [hval]
      exact .pv _ _ hro
    · have : (L.upd [(r, none)]).get s = L.get s := by simp [LS.get, upd_blk]
      rw [this]
      exact (hi.slots s).mono (fun _ _ => rfl) hF fun q _ => hdead q
  · rw [put_blk, upd_get]
    by_cases hs : s = r
    · subst hs
      simp [upsGet, HoldB, layHd]
    · have hs' : ¬ r = s := fun e => hs e.symm
      simp only [upsGet, if_neg hs', Option.getD_none]
      exact (hi.blocks s).mono (fun _ _ => rfl) hF (by simp [layHd, hs]) (fun _ _ => rfl) fun c _ q _ => hdead q
  · exact hi.sep s s' k hne (hown s k h1).1 (hown s' k h2).1
  · obtain ⟨h1, h2⟩ := hown s k hk
    obtain ⟨m1, m2, m3⟩ := hi.mine s k h1
    exact ⟨fun h => h.elim m1 fun h3 => hi.sep s r k h2 h1 h3, m2, m3⟩
  · rcases hk with hk | hk
    · exact hi.fin k hk
    · obtain ⟨m1, m2, m3⟩ := hi.mine r k hk
      exact ⟨m2, .inr m3⟩
  · rcases hdead (.arg i) with h | h
    · rw [h]; exact hi.kept i
    · exact .inr h
  · exact C.Gl.mono hi.gl (fun _ _ => rfl) hF
theorem evAt_get (L : LS) (r : Nm) (t : Nat) (x : AV) : ((L.upd [(r, none)]).put (some t) x).ev = evAt L.ev t x := by
  funext y
  cases y with
  | tmp s =>
    simp only [LS.ev, evAt]
    rw [put_get]
    by_cases h : s = t
    · subst h; simp
    · have h' : ¬ t = s := fun e => h e.symm
      simp [h, h', LS.get, upd_blk]
  | _ => rfl
theorem sem1_lay {C : Ctx} {o : Oper} {ev : Operand → AV} {t : Nat} {r : Nm} {e sz : Nat} {es : List (List PV)} {v : AV} (ht : ev (.tmp t) = .own r) (htop : Operand.tmp t ∈ o.op.operands.toList) (h : Sem1 C o (evAt ev t (.pv (.ro sz es))) [] ⟨v, []⟩) :
    Sem1 C o ev [(r, .row e sz es)] ⟨v, [(r, none)]⟩ := by
  intro L hd F a w hev hfp hnew hi K Q hK
  have hb := hfp (r, .row e sz es) (by simp)
  have hgt : L.get t = .own r := by
    have := hev _ htop
    rw [ht] at this
    exact this
  refine h _ _ _ a w (fun x hx => ?_) (by simp) (by simp [news]) (inv_lay hi hb hgt) K Q fun a' w' hd' F' hi' => hK a' w' hd' F' ?_
  · rw [evAt_get]
    cases x with
    | tmp s =>
      simp only [evAt]
      split
      · rfl
      · exact hev _ hx
    | _ => exact hev _ hx
  · have hrd : hd' r = .dead := by
      have := hi'.blocks r
      rw [app_blk] at this
      simp only [upsGet, Option.getD_none, put_blk, upd_get] at this
      simpa [upsGet, HoldB] using this
    refine { hi' with slots := fun s => ?_, blocks := fun s => ?_, ntmps := hi'.ntmps, defers := hi'.defers }
    · have h1 := hi'.slots s
      rw [app_get] at h1 ⊢
      by_cases hd0 : o.dst = some s
      · rw [if_pos hd0] at h1 ⊢
        exact h1
      · rw [if_neg hd0, put_get] at h1
        rw [if_neg hd0]
        by_cases hts : t = s
        · subst hts
          rw [if_pos rfl] at h1
          rw [hgt]
          cases h1 with
          | pv _ _ hp => exact .own _ _ hp.one fun u hu => by rw [hrd] at hu; cases hu
        · rw [if_neg (fun e => hts (Option.some.inj e))] at h1
          simpa [LS.get, upd_blk] using h1
    · have h1 := hi'.blocks s
      rw [app_blk] at h1 ⊢
      simpa [upsGet, put_blk, upd_get] using h1
section
variable {C : Ctx} {P : Program} {Gl : Granted} {T : TT} {n : Nat} {rs : List ResultVar} {v : AV} {post : List (Nm × Option Blk)} {ops : Array Oper} {draw : Bool} {i : Nat} {o : Oper} {opl : List Oper} {done : List Trace} {todo : List Item} {L : LS}
theorem Rd.buildLay (h : Rd C P Gl T n rs v post) {ty t e sz : Nat} {r : Nm} {es : List (List PV)} (h1 : o.op = .buildSlice ty 1 #[(0, .tmp t)])
    (hs : guardOf ops o L = some true ∧ dstOk n o = true ∧ L.ev (.tmp t) = .own r ∧ L.blk r = some (.row e sz es) ∧ stBuildSlice T [] (L.put (some t) (.pv (.ro sz es))) o.dst ty 1 [(0, .tmp t)] = .act [] ⟨.pv (.ro 1 [[.ro sz es]]), []⟩ (1 * 1 ≤ 16777216) ∧ okPair ops draw done o ⟨i, [r], [r]⟩ [] opl = true)
    (hnext : Go C (.reg ops draw (i + 1) opl (nexts o draw ⟨i, [r], [r]⟩ done) todo (L.app o.dst ⟨.pv (.ro 1 [[.ro sz es]]), [(r, none)]⟩))) : Go C (.reg ops draw i (o :: opl) done todo L) := by
  obtain ⟨h2, h3, h4, h5, h6, h7⟩ := hs
  have := h.prog
  subst this
  have hdst : ∀ d, o.dst = some d → d < C.fn.ntmps := fun d hd => by rw [h.n]; exact dstOk_spec h3 d hd
  have hok := stBuildSlice_ok (W := []) (L := L.put (some t) (.pv (.ro sz es))) h.tok hdst h1
  rw [show (#[(0, Operand.tmp t)] : Array (Nat × Operand)).toList = [(0, .tmp t)] from rfl, h6] at hok
  obtain ⟨hsem, _, _⟩ := hok (by decide)
  have hev : (L.put (some t) (.pv (.ro sz es))).ev = evAt L.ev t (.pv (.ro sz es)) := by
    funext y
    cases y with
    | tmp s =>
      simp only [LS.ev, evAt]
      rw [put_get]
      by_cases hst : s = t
      · subst hst; simp
      · have h' : ¬ t = s := fun e => hst e.symm
        simp [hst, h']
    | _ => rfl
  rw [hev] at hsem
  exact reg_step h2 (sem1_lay (e := e) h4 (by simp [h1, Op.operands]) hsem) (by simpa using h5) (fun q hq => by simp [news, Nm.eqb_iff] at hq) (by simpa [upsMents, AV.ments] using h7) hnext
end
end Go.Abs
