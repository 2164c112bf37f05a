/-
  AN EXPRESSION AS THE REFERENCE HAS IT: of whatever size.
-/
import Derived.Test.YtonomogpephfkaaDoorD18
import Derived.Test.YtonomogpephfkaaDoorD24
set_option linter.unusedVariables false
set_option linter.unusedSimpArgs false
namespace Go.Proofs.D
open Go Go.Abs
theorem asE (Gl : Granted) (e : E) (hc : e.cnt ≤ 1000000) : Fun Tryd.prog Gl 19 [e.av] [] e.av [] :=
  f19 Gl e (by have := kids_le e; omega) fun k hk => asE Gl k (by have := cnt_kid hk; omega)
termination_by SizeOf.sizeOf e
decreasing_by exact E.kids_lt hk
end Go.Proofs.D
