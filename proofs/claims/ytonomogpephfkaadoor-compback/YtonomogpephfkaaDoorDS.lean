/-
  THE LIBRARY'S FUNCTIONS, as the shelf has them.
-/
import Derived.Test.YtonomogpephfkaaDoorD0
import Derived.Test.YtonomogpephfkaaDoorAbsM
import Derived.Test.YtonomogpephfkaaDoorShelf
import Derived.Shelf.Strings.SlTrimAscii
set_option linter.unusedVariables false
set_option linter.unusedSimpArgs false
namespace Go.Proofs.D
open Go Go.Abs
def low : ByteArray := ⟨#[97, 98, 99, 100, 101, 102, 103, 104, 105, 106, 107, 108, 109, 110, 111, 112, 113, 114, 115, 116, 117, 118, 119, 120, 121, 122]⟩
theorem low_ascii : ∀ (j : Nat) b, low.data.toList[j]? = some b → b.toNat < 128 := by
  intro j b h
  have : ∀ b ∈ low.data.toList, b.toNat < 128 := by decide
  exact this b (List.mem_of_getElem? h)
theorem f99 (Gl : Granted) (s : ByteArray) : Fun Tryd.prog Gl 99 [vS s, vS low] [] (vS ⟨(Lib.trimLeftS s.data.toList low.data.toList).toArray⟩) [] :=
  fun_vals [.string s, .string low] _ ⟨_, Tryd.func99, by kernel_rfl, rfl⟩ rfl fun w => Any.strings_TrimLeft_laid Tryd.lays161 (by kernel_rfl) s low w (by decide) low_ascii
theorem f86 (Gl : Granted) (s : ByteArray) (hs : s.size ≤ 9223372036854775807) : Fun Tryd.prog Gl 86 [vS s, vS low] [] (vS ⟨(Lib.trimS s.data.toList low.data.toList).toArray⟩) [] :=
  fun_vals [.string s, .string low] _ ⟨_, Tryd.func86, by kernel_rfl, rfl⟩ rfl fun w => Any.strings_Trim_laid Tryd.lays160 (by kernel_rfl) s low w hs (by decide) low_ascii
end Go.Proofs.D
