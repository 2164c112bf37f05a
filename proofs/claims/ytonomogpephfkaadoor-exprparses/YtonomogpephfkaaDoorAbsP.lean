/-
  CONTRACTS, of other arguments.
-/
import Derived.Test.YtonomogpephfkaaDoorAbsO
set_option linter.unusedVariables false
set_option linter.unusedSimpArgs false
namespace Go.Abs
open Go.RowKit
/-- The same function, of arguments of which more is known. -/
theorem fun_args {P : Program} {Gl : Granted} {g : FuncId} {args args' : List AV} {pre post : List (Option Blk)} {v : AV} (h : Fun P Gl g args pre v post) (hl : args'.length = args.length)
    (ha : ∀ (j : Nat) (x y : AV), args'[j]? = some x → args[j]? = some y → ∀ (w : World) (F : Nat → Prop) (hd : Nm → Hd) (c : Value), Rep w F hd x c → Rep w F hd y c) : Fun P Gl g args' pre v post := by
  refine ⟨h.fn, fun w0 F0 hd0 cargs hg hli hlen hr => h.calls w0 F0 hd0 cargs hg hli (hlen.trans hl) fun j y c hj hc => ?_⟩
  have : j < args'.length := by rw [hl]; exact (List.getElem?_eq_some_iff.1 hj).1
  exact ha j _ y (List.getElem?_eq_getElem this) hj _ _ _ _ (hr j _ c (List.getElem?_eq_getElem this) hc)
theorem rep_nil {sz sz' : Nat} {w : World} {F : Nat → Prop} {hd : Nm → Hd} {c : Value} (h : Rep w F hd (.pv (.nilS sz')) c) : Rep w F hd (.pv (.ro sz [])) c := by
  cases h with
  | pv _ _ hp =>
    cases hp
    exact .pv _ _ (.ro sz [] none 0 (fun _ _ => undef) (fun _ => rfl) (by simp) (by simp) (fun i e h => by simp at h) (fun h => absurd rfl h) (fun i j e c h => by simp at h))
theorem nil_row {x : AV} {sz sz' : Nat} (j : Nat) (y z : AV) (h1 : [x, .pv (.nilS sz')][j]? = some y) (h2 : [x, .pv (.ro sz [])][j]? = some z) (w : World) (F : Nat → Prop) (hd : Nm → Hd) (c : Value) (h : Rep w F hd y c) : Rep w F hd z c := by
  match j, h1, h2 with
  | 0, h1, h2 => simp at h1 h2; subst h1 h2; exact h
  | 1, h1, h2 => simp at h1 h2; subst h1 h2; exact rep_nil h
/-- A function that only reads a row, given one of the caller's own to keep. -/
theorem fun_ownRow {P : Program} {Gl : Granted} {g : FuncId} {a b : List AV} {e sz : Nat} {es : List (List PV)} {v : AV} (ha : ∀ x ∈ a ++ b, x.ments = []) (hv : v.ments = []) (h : Fun P Gl g (a ++ .pv (.ro sz es) :: b) [] v []) : Fun P Gl g (a ++ .own (.arg 0) :: b) [some (.row e sz es)] v [none] := by
  refine ⟨h.fn, fun w0 F0 hd0 cargs hg hl hlen hr => ?_⟩
  have h0 := hl.holds (.arg 0)
  simp [keyed, lkH, Nm.eqb] at h0
  obtain ⟨u, cells, q1, q2, q3, q4, q5⟩ := h0
  have hk : ∀ k, u.ownBlock = some k → ¬ F0 k ∧ k < w0.heap.size := fun k hk => hl.mine (.arg 0) k (by rw [q1]; exact hk)
  have hx : ∀ (x : AV) (c : Value), Rep w0 F0 hd0 x c → x.ments = [] → Rep w0 (fun j => F0 j ∨ u.ownBlock = some j) (fun _ => .dead) x c := fun x c hc hm => hc.mono (fun _ _ => rfl) (fun _ h => .inl h) fun r hr => by rw [hm] at hr; cases hr
  refine (h.calls w0 (fun j => F0 j ∨ u.ownBlock = some j) (fun _ => .dead) cargs (Gl.mono hg (fun _ _ => rfl) fun _ h => .inl h) ⟨fun j hj => ?_, fun r s j _ hj => hj.elim, fun r j hj => hj.elim, fun r => rfl⟩ (by simpa using hlen) fun j x c hj hc => ?_).mono fun e' w' he => ?_
  · rcases hj with hj | hj
    · exact hl.fin j hj
    · exact (hk j hj).2
  · by_cases hja : j < a.length
    · rw [List.getElem?_append_left hja] at hj
      exact hx x c (hr j x c (by rw [List.getElem?_append_left hja]; exact hj) hc) (ha x (List.mem_append.2 (.inl (List.mem_of_getElem? hj))))
    · rw [List.getElem?_append_right (by omega)] at hj
      have hr' := fun y => hr j y c
      rw [List.getElem?_append_right (by omega)] at hr'
      cases hm : j - a.length with
      | zero =>
        rw [hm] at hj hr'
        simp at hj
        subst hj
        have := hr' (.own (.arg 0)) (by simp) hc
        cases this with
        | own _ _ _ hh =>
          obtain rfl := hh u q1
          exact .pv _ _ (row_ro q2 q3 (fun i j el c u' a1 a2 a3 => (q4 i j el c u' a1 a2 a3).mono (fun _ _ => rfl) (fun _ h => .inl h)) (fun k hk' => .inr hk'))
      | succ m =>
        rw [hm] at hj hr'
        simp at hj
        exact hx x c (hr' x (by simpa using hj) hc) (ha x (List.mem_append.2 (.inr (List.mem_of_getElem? hj))))
  · obtain ⟨cv, F, hd, rfl, hrep, hlies, hleft⟩ := he
    have hd' : ∀ r, hd r = .dead := fun r => hlies.holds r
    refine ⟨cv, F, hd, rfl, hrep, ⟨hlies.fin, hlies.sep, hlies.mine, fun r => ?_⟩, ⟨fun r j hj => ?_, fun j hj => ?_, fun j hj => hleft.more j (.inl hj), fun i => .inr (hd' _), hleft.os, hleft.tape, hleft.output, hleft.size, fun j hj hn => hleft.old j hj fun ⟨s, hs⟩ => hs.elim⟩⟩
    · have : lkH (keyed 0 [none]) r = none := by simp [keyed, lkH]
      rw [this]
      exact hd' r
    · rw [hd' r] at hj; exact hj.elim
    · rcases hleft.fin j hj with (h1 | h1) | h1 | ⟨s, hs⟩
      · exact .inl h1
      · exact .inr (.inr ⟨.arg 0, by rw [q1]; exact h1⟩)
      · exact .inr (.inl h1)
      · exact hs.elim
end Go.Abs
