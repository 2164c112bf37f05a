/-
  NODES AND COMPLEMENTS, as the program has them.
-/
import Derived.Test.YtciibpfhjfegnaaGreatDoorLO
import Derived.Test.YtciibpfhjfegnaaGreatDoorP2
import Derived.Test.YtciibpfhjfegnaaGreatDoorAbsLR
set_option linter.unusedVariables false
set_option linter.unusedSimpArgs false
namespace Go.Proofs.D
open Go Go.Abs
def T3 : TT := (143, ⟨true, 2, 32, [.val (.pointer none), .nilS 1], .str [(0, 140), (1, 141)]⟩) ::
  (140, ⟨false, 1, 8, [.val (.pointer none)], .other⟩) :: T
theorem tok3 : TOk Tryz.prog T3 :=
  tok_cons (tok1 (z := .agg #[.pointer none, .slice none 0 0]) Tryz.isAgg143 (by kernel_rfl) rfl rfl rfl (by decide) ⟨_, Tryz.underlying143, rfl⟩) <|
  tok_cons (tok1 (z := .pointer none) Tryz.isAgg140 (by kernel_rfl) rfl rfl rfl (by decide) trivial) <| tok
abbrev strs (m : List ByteArray) : PV := .ro 1 (m.map fun s => [.val (.string s)])
abbrev pairs (a : List (ByteArray × ByteArray)) : PV := .ro 2 (a.map fun p => [.val (.string p.1), .val (.string p.2)])
def N.pv : N → List PV
  | .mk k t m a kids => [.val (.string k), .val (.string t), strs m, pairs a, .ro 5 (kids.attach.map fun x => x.1.pv)]
termination_by e => SizeOf.sizeOf e
decreasing_by exact N.kids_lt (e := .mk k t m a kids) x.2
abbrev nodes (l : List N) : PV := .ro 5 (l.map N.pv)
def N.cells (n : N) : List AV := [vS n.kind, vS n.text, .pv (strs n.marks), .pv (pairs n.attrs), .pv (nodes n.kids)]
def N.av (n : N) : AV := .agg n.cells
def Ent.pv (e : Ent) : List PV := [.val (.bool e.has), .val (.string e.value), nodes e.rest]
def Ent.cells (e : Ent) : List AV := [vB e.has, vS e.value, .pv (nodes e.rest)]
def Ent.av (e : Ent) : AV := .agg e.cells
abbrev M47 : Nat := 140737488355328
def N.small : N → Prop
  | .mk k t m a kids => k.size ≤ M47 ∧ t.size ≤ M47 ∧ (∀ s ∈ m, s.size ≤ M47) ∧ (∀ p ∈ a, p.1.size ≤ M47 ∧ p.2.size ≤ M47) ∧ go kids
where go : List N → Prop
  | [] => True
  | k :: l => k.small ∧ go l
end Go.Proofs.D
