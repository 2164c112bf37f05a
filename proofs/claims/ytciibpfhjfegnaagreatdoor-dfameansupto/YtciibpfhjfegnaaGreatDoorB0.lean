/-
  WHAT IS READ OF A SLICE, A TEXT.
-/
import Derived.Test.YtciibpfhjfegnaaGreatDoorLO
import Derived.Test.YtciibpfhjfegnaaGreatDoorAbsT
set_option linter.unusedVariables false
set_option linter.unusedSimpArgs false
namespace Go.Proofs.D
open Go Go.Abs Go.RowKit Go.ChangeShapes Go.WideShapes
section
variable {H : Type} {enc : TypeId × Value → H} {W : World}
abbrev allOf (W : World) (k : Nat) : Prop := k < W.heap.size
theorem cells9 : Tryz.prog.cellsOf 9 = 1 := by kernel_rfl
theorem again9 (n : Nat) : Again H enc Tryz.prog n 9 := again_string Tryz.underlying9 n
theorem add_add {a : Addr} (hs : a.spot = none) (p j : Nat) : (a.add p).add j = a.add (p + j) := by
  obtain ⟨b, o, s⟩ := a
  simp at hs
  subst hs
  rw [add_at, add_at, add_at, Nat.add_assoc]
theorem cell_lt {w : World} {a : Addr} {v : Value} (h : w.cell? a = some v) : a.block < w.heap.size ∧ a.spot = none := by
  unfold World.cell? at h
  cases hb : w.heap[a.block]? with
  | none => rw [hb] at h; cases h
  | some o =>
    refine ⟨(Array.getElem?_eq_some_iff.1 hb).1, ?_⟩
    rw [hb] at h
    cases o with
    | cells c t f =>
      simp only at h
      cases hs : a.spot with
      | none => rfl
      | some s => rw [hs] at h; simp at h
    | _ => cases h
theorem cells_get {w : World} {a : Addr} {n : Nat} {c : List Value} (h : w.cells? 0 a n = some c) : c.length = n ∧ ∀ j, j < n → w.cell? (a.add j) = c[j]? := by
  unfold World.cells? at h
  simp only [Nat.zero_le, if_true] at h
  exact ⟨by simpa using mapM_some_length h, fun j hj => mapM_some_get h j j (by simp [hj])⟩
instance : Inhabited ByteArray := ⟨⟨#[]⟩⟩
theorem str_of {sp : Nat → Bool} {held : Bool} {n : Nat} {cs : List Value} {x : DataW H × List MemPlace} (h : DataW.trod enc Tryz.prog W 0 sp held n 9 cs = some x) : ∃ s : ByteArray, cs = [.string s] ∧ s.size ≤ maxLen := by
  obtain ⟨s, h1, _, h2⟩ := DataW.trod_string Tryz.underlying9 h
  exact ⟨s, h1, h2⟩
abbrev noHd : Nm → Hd := fun _ => .dead
end
end Go.Proofs.D
