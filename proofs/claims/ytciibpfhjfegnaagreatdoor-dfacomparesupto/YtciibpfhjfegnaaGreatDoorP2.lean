/-
  COMPLEMENTS, and how they are written: what is written is read in one way alone; how heavy they are.
-/
import Derived.Test.YtciibpfhjfegnaaGreatDoorP1
import Derived.Lib.RuneCount
set_option linter.unusedVariables false
set_option linter.unusedSimpArgs false
namespace Go.Proofs.D
open Go Go.Abs
noncomputable instance : DecidableEq N := fun a b => Classical.propDecidable _
structure Ent where
  has : Bool
  value : ByteArray
  rest : List N
noncomputable instance : DecidableEq Ent := fun a b => Classical.propDecidable _
def N.size : N → Int
  | .mk k t m a kids => if k = textK then Lib.runeCount t else wr .i64 (2 + go kids 0)
where go : List N → Int → Int
  | [], d => d
  | x :: l, d => go l (wr .i64 (d + x.size))
def Ent.none (e : Ent) : Bool := decide (e.value = ⟨#[]⟩) && decide (e.rest.length = 0)
def Ent.w (e : Ent) : Bs := if e.has = true then 61 :: (quoteB e.value.data.toList ++ (if N.w.go e.rest = [] then [] else 91 :: (N.w.go e.rest ++ [93]))) else [45]
end Go.Proofs.D
