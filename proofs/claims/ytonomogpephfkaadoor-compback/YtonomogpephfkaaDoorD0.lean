/-
  THE TYPES of the part that is gone through, and a few plain facts.
-/
import Derived.Test.YtonomogpephfkaaDoorProg
import Derived.Test.YtonomogpephfkaaDoorAbsI
set_option linter.unusedVariables false
set_option linter.unusedSimpArgs false
namespace Go.Proofs.D
open Go Go.Abs
def T : TT := [(3, ⟨false, 1, 8, [.val (.int .i64 0)], .int .i64⟩),
  (4, ⟨false, 1, 1, [.val (.bool false)], .bool⟩),
  (5, ⟨false, 1, 1, [.val (.int .u8 0)], .int .u8⟩),
  (9, ⟨false, 1, 16, [.val (.string ⟨#[]⟩)], .string⟩),
  (21, ⟨false, 1, 4, [.val (.int .i32 0)], .int .i32⟩),
  (23, ⟨false, 1, 24, [.nilS 3], .slice 25⟩),
  (25, ⟨true, 3, 48, [.val (.int .u8 0), .val (.string ⟨#[]⟩), .nilS 3], .str [(0, 5), (1, 9), (2, 23)]⟩),
  (26, ⟨false, 1, 8, [.val (.int .i64 0)], .int .i64⟩),
  (29, ⟨false, 1, 24, [.nilS 3], .slice 31⟩),
  (31, ⟨true, 3, 48, [.val (.int .u8 0), .val (.string ⟨#[]⟩), .nilS 3], .str [(0, 5), (1, 9), (2, 29)]⟩),
  (42, ⟨false, 1, 24, [.nilS 1], .slice 9⟩),
  (59, ⟨true, 3, 32, [.val (.string ⟨#[]⟩), .val (.bool false), .val (.int .i64 0)], .str [(0, 9), (1, 4), (2, 3)]⟩),
  (66, ⟨false, 1, 8, [.val (.map none)], .other⟩),
  (81, ⟨false, 1, 24, [.nilS 1], .slice 5⟩),
  (98, ⟨false, 1, 8, [.val (.map none)], .other⟩)]
theorem tok : TOk Tryd.prog T :=
  tok_cons (tok1 (z := .int .i64 0) Tryd.isAgg3 (by kernel_rfl) rfl rfl rfl (by decide) Tryd.underlying3) <|
  tok_cons (tok1 (z := .bool false) Tryd.isAgg4 (by kernel_rfl) rfl rfl rfl (by decide) Tryd.underlying4) <|
  tok_cons (tok1 (z := .int .u8 0) Tryd.isAgg5 (by kernel_rfl) rfl rfl rfl (by decide) Tryd.underlying5) <|
  tok_cons (tok1 (z := .string ⟨#[]⟩) Tryd.isAgg9 (by kernel_rfl) rfl rfl rfl (by decide) Tryd.underlying9) <|
  tok_cons (tok1 (z := .int .i32 0) Tryd.isAgg21 (by kernel_rfl) rfl rfl rfl (by decide) Tryd.underlying21) <|
  tok_cons (tok1 (z := .slice none 0 0) Tryd.isAgg23 (by kernel_rfl) rfl rfl rfl (by decide) Tryd.underlying23) <|
  tok_cons (tok1 (z := .agg #[.int .u8 0, .string ⟨#[]⟩, .slice none 0 0]) Tryd.isAgg25 (by kernel_rfl) rfl rfl rfl (by decide) ⟨_, Tryd.underlying25, rfl⟩) <|
  tok_cons (tok1 (z := .int .i64 0) Tryd.isAgg26 (by kernel_rfl) rfl rfl rfl (by decide) Tryd.underlying26) <|
  tok_cons (tok1 (z := .slice none 0 0) Tryd.isAgg29 (by kernel_rfl) rfl rfl rfl (by decide) Tryd.underlying29) <|
  tok_cons (tok1 (z := .agg #[.int .u8 0, .string ⟨#[]⟩, .slice none 0 0]) Tryd.isAgg31 (by kernel_rfl) rfl rfl rfl (by decide) ⟨_, Tryd.underlying31, rfl⟩) <|
  tok_cons (tok1 (z := .slice none 0 0) Tryd.isAgg42 (by kernel_rfl) rfl rfl rfl (by decide) Tryd.underlying42) <|
  tok_cons (tok1 (z := .agg #[.string ⟨#[]⟩, .bool false, .int .i64 0]) Tryd.isAgg59 (by kernel_rfl) rfl rfl rfl (by decide) ⟨_, Tryd.underlying59, rfl⟩) <|
  tok_cons (tok1 (z := .map none) Tryd.isAgg66 (by kernel_rfl) rfl rfl rfl (by decide) trivial) <|
  tok_cons (tok1 (z := .slice none 0 0) Tryd.isAgg81 (by kernel_rfl) rfl rfl rfl (by decide) Tryd.underlying81) <|
  tok_cons (tok1 (z := .map none) Tryd.isAgg98 (by kernel_rfl) rfl rfl rfl (by decide) trivial) <| tok_nil
theorem mixed : Tryd.prog.follows .mixedOrders = true := by kernel_rfl
theorem wr64 (z : Int) (h : -9223372036854775808 ≤ z ∧ z < 9223372036854775808) : wr .i64 z = z := by
  rw [wr_eq, IntKind.wrap_i64]; omega
theorem foldl_drop {α β : Type} (f : β → α → β) (l : List α) (i : Nat) (h : i < l.length) (b : β) : (l.drop i).foldl f b = (l.drop (i + 1)).foldl f (f b l[i]) := by
  rw [List.drop_eq_getElem_cons h]; rfl
abbrev vI (n : Int) : AV := .pv (.val (.int .i64 n))
abbrev vS (s : ByteArray) : AV := .pv (.val (.string s))
abbrev vB (b : Bool) : AV := .pv (.val (.bool b))
theorem go_lenB {C : Ctx} {todo : List Item} {L : LS} (r : Nm) (ty : Nat) (cs : List AV) (j sz : Nat) (es : List (List PV)) (hb : L.blk r = some (.box ty cs)) (hj : cs[j]? = some (.pv (.ro sz es))) (h : es.length ≤ 9223372036854775807 → Go C (.top todo L)) : Go C (.top todo L) := by
  intro hd F a w hi cs'
  have hs := hi.blocks r
  rw [hb] at hs
  obtain ⟨k, arr, _, _, h3, h4, _⟩ := hs
  have hlt : j < arr.size := by rw [h3]; exact (List.getElem?_eq_some_iff.1 hj).1
  have hv := h4 j _ arr[j] hj (by simp [hlt])
  generalize arr[j] = v at hv
  cases hv with
  | pv _ _ hp => cases hp with
    | ro _ _ A cap u hA hc hm => exact h hm hd F a w hi cs'
end Go.Proofs.D
