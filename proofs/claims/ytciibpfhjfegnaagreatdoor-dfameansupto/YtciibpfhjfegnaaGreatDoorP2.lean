/-
  COMPLEMENTS, and how they are written: what is written is read in one way alone; how heavy they are.
-/
import Derived.Test.YtciibpfhjfegnaaGreatDoorP1
import Derived.Lib.RuneCount
set_option linter.unusedVariables false
set_option linter.unusedSimpArgs false
namespace Go.Proofs.D
open Go Go.Abs
noncomputable instance : DecidableEq N := fun a b => Classical.propDecidable _
/-- An entry. -/
structure Ent where
  has : Bool
  value : ByteArray
  rest : List N
theorem Ent.ext' {a b : Ent} (h1 : a.has = b.has) (h2 : a.value = b.value) (h3 : a.rest = b.rest) : a = b := by
  obtain ⟨⟩ := a
  obtain ⟨⟩ := b
  simp only at h1 h2 h3
  subst h1 h2 h3
  rfl
noncomputable instance : DecidableEq Ent := fun a b => Classical.propDecidable _
/-- A node, of some kids. -/
def xOf (l : List N) : N := .mk ⟨#[120]⟩ ⟨#[]⟩ [] [] l
/-- How deep, how large. -/
def N.deep : N → Int
  | .mk k t m a kids => if k = textK then 0 else wr .i64 (go kids 0 + 1)
where go : List N → Int → Int
  | [], d => d
  | x :: l, d => go l (if d < x.deep then x.deep else d)
def N.size : N → Int
  | .mk k t m a kids => if k = textK then Lib.runeCount t else wr .i64 (2 + go kids 0)
where go : List N → Int → Int
  | [], d => d
  | x :: l, d => go l (wr .i64 (d + x.size))
def N.check (n : N) : Int := if n.form = false then 2 else if 40 < n.deep then 4 else if 4000 < n.size then 5 else 0
/-- Is an entry right, and how is it written? -/
def Ent.none (e : Ent) : Bool := decide (e.value = ⟨#[]⟩) && decide (e.rest.length = 0)
def Ent.ok (e : Ent) : Bool := if e.has = true then Go.Proofs.D.value e.value && decide ((xOf e.rest).check = 0) else e.none
def Ent.w (e : Ent) : Bs := if e.has = true then 61 :: (quoteB e.value.data.toList ++ (if N.w.go e.rest = [] then [] else 91 :: (N.w.go e.rest ++ [93]))) else [45]
abbrev Cm := List (List Ent)
/-! ### how heavy -/
end Go.Proofs.D
