/-
  WHAT ALL CARDS OF THIS SEAT SHARE.
-/
import Derived.Test.YtonomogpephfkaaDoorCards
import Derived.Test.YtonomogpephfkaaDoorTie
import Derived.Lay
import Derived.Deep.DeepHandedRow
import Derived.Lib.LaidTab
import Derived.SizedLaws
import Derived.Test.YtonomogpephfkaaDoorB1
set_option linter.unusedVariables false
set_option linter.unusedSimpArgs false
namespace Go.Proofs.D
open Go Go.Abs Go.RowKit Go.ChangeShapes Go.WideShapes
theorem ownKnobs : ownKnob Tryd.prog.godebug = none := by kernel_rfl
theorem bytes9 : Tryd.prog.bytesOf 9 = 16 := by kernel_rfl
theorem len_bound {H : Type} {ts : List TypeId} {ds : List (DataW H)} (h : (DataW.weightsEach Tryd.prog ts ds).all (· ≤ reachBytes) = true) {j : Nat} {d : DataW H} (ht : ts[j]? = some 42) (hd : ds[j]? = some d) {l : List ByteArray}
    (hl : d = .nil ∧ l = [] ∨ ∃ es sp, d = .slice es sp ∧ es.length = l.length) : l.length ≤ 140737488355328 := by
  rcases hl with ⟨_, rfl⟩ | ⟨es, sp, rfl, he⟩
  · simp
  · have h1 := sized_slice h ht hd Tryd.underlying42
    have h2 := reachBytes_lt
    rw [bytes9] at h1
    omega
set_option maxRecDepth 20000 in
theorem argS {H : Type} {enc : TypeId × Value → H} {W : World} {ts : List TypeId} {ds : List (DataW H)} (h : (DataW.weightsEach Tryd.prog ts ds).all (· ≤ reachBytes) = true) {j : Nat} {d : DataW H} (ht : ts[j]? = some 9) (hd : ds[j]? = some d) {b0 : Nat} {v : Value} {p : List MemPlace}
    (hok : Value.okWide Tryd.prog W .any b0 9 v) (hr : DataW.Trod enc Tryd.prog W 0 (fun _ => true) true 9 v d p) : ∃ s : ByteArray, Rep W (allOf W) noHd (vS s) v ∧ s.size ≤ 140737488355328 := by
  obtain ⟨s, rfl, rfl, _, _⟩ := Go.ChangeMaps.open_string Tryd.underlying9 hok hr
  have h1 := sized_string h ht hd
  have h2 := reachBytes_lt
  have e : s.data.toList.length = s.size := Array.length_toList
  exact ⟨s, rep_val rfl, by omega⟩
end Go.Proofs.D
