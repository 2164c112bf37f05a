/-
  CONTRACTS FROM ELSEWHERE: what is known of a function as the library's shelf says it.
-/
import Derived.Test.YtonomogpephfkaaDoorAbsI
set_option linter.unusedVariables false
set_option linter.unusedSimpArgs false
namespace Go.Abs
open Go.RowKit

theorem dead_of {w : World} {F : Nat → Prop} {hd : Nm → Hd} (h : Lies w F hd (keyed 0 [])) (r : Nm) : hd r = .dead := h.holds r
/-- A function whose call hands on no block, and leaves what was there as it was. -/
theorem fun_shelf {P : Program} {Gl : Granted} {g : FuncId} {args : List AV} {v : AV} (hfn : ∃ fng, P.funcs[g]? = some fng ∧ (fng.name == "runtime.NumGoroutine") = false ∧ fng.body.isNone = false)
    (h : ∀ (w : World) (F : Nat → Prop) (cargs : List Value), Gl.p w F → (∀ k, F k → k < w.heap.size) → cargs.length = args.length → (∀ (j : Nat) (x : AV) (c : Value), args[j]? = some x → cargs[j]? = some c → Rep w F (fun _ => .dead) x c) →
      Calls P g cargs.toArray w fun e w' => ∃ cv, e = .returned cv ∧ Rep w' F (fun _ => .dead) v cv ∧ Below w.heap.size w w') : Fun P Gl g args [] v [] := by
  refine ⟨hfn, fun w0 F0 hd0 cargs hg hl hlen hr => ?_⟩
  have hd : hd0 = fun _ => .dead := funext fun r => dead_of hl r
  subst hd
  refine (h w0 F0 cargs hg hl.fin hlen hr).mono fun e w' he => ?_
  obtain ⟨cv, rfl, hrep, hb⟩ := he
  exact ⟨cv, F0, _, rfl, hrep, ⟨fun k hk => Nat.lt_of_lt_of_le (hl.fin k hk) hb.size, fun r s k _ h => h.elim, fun r k h => h.elim, fun r => rfl⟩,
    ⟨fun r k h => h.elim, fun k hk => .inl hk, fun k hk => hk, fun i => .inl rfl, hb.os, hb.tape, hb.output, hb.size, fun k hk _ => hb.block k hk⟩⟩
/-- .. its arguments and its answer plain values. -/
theorem fun_vals {P : Program} {Gl : Granted} {g : FuncId} (args : List Value) (r : Value) (hfn : ∃ fng, P.funcs[g]? = some fng ∧ (fng.name == "runtime.NumGoroutine") = false ∧ fng.body.isNone = false) (hr : r.oneCell' = true)
    (h : ∀ w, Calls P g args.toArray w fun e w' => e = .returned r ∧ Below w.heap.size w w') : Fun P Gl g (args.map fun v => .pv (.val v)) [] (.pv (.val r)) [] := by
  refine fun_shelf hfn fun w F cargs _ _ hlen hreps => ?_
  have : cargs = args := by
    rw [List.length_map] at hlen
    apply List.ext_getElem?
    intro j
    by_cases hj : j < args.length
    · have hj' : j < cargs.length := by omega
      have := hreps j (.pv (.val args[j])) cargs[j] (by simp [hj]) (List.getElem?_eq_getElem hj')
      rw [List.getElem?_eq_getElem hj', List.getElem?_eq_getElem hj, bool_of this]
    · rw [List.getElem?_eq_none (by omega), List.getElem?_eq_none (by omega)]
  subst this
  exact (h w).mono fun e w' ⟨he, hb⟩ => ⟨r, he, .pv _ _ (.val r hr), hb⟩

end Go.Abs
