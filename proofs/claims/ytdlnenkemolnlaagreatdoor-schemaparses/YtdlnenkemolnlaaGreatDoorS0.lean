/-
  THE TYPES of schemas, and of what the document's answer has.
-/
import Derived.Test.YtdlnenkemolnlaaGreatDoorK3
import Derived.Test.YtdlnenkemolnlaaGreatDoorAbsR
set_option linter.unusedVariables false
set_option linter.unusedSimpArgs false
namespace Go.Proofs.D
open Go Go.Abs Go.RowKit
def T4 : TT := (42, ⟨true, 2, 48, [.nilS 5, .nilS 1], .str [(0, 39), (1, 40)]⟩) ::
  (39, ⟨false, 1, 24, [.nilS 5], .slice 57⟩) ::
  (57, ⟨true, 5, 88, [.val (.string ⟨#[]⟩), .val (.int .u8 0), .val (.string ⟨#[]⟩), .nilS 3, .nilS 2], .str [(0, 9), (1, 54), (4, 55)]⟩) ::
  (55, ⟨false, 1, 24, [.nilS 2], .slice 44⟩) ::
  (44, ⟨true, 2, 40, [.val (.string ⟨#[]⟩), .nilS 1], .str [(0, 9), (1, 40)]⟩) ::
  (74, ⟨false, 1, 24, [.nilS 1], .slice 21⟩) ::
  (48, ⟨true, 2, 48, [.nilS 5, .nilS 1], .str [(0, 46), (1, 40)]⟩) ::
  (46, ⟨false, 1, 24, [.nilS 5], .slice 123⟩) ::
  (123, ⟨true, 5, 88, [.val (.string ⟨#[]⟩), .val (.int .u8 0), .val (.string ⟨#[]⟩), .nilS 3, .nilS 2], .str [(0, 9), (1, 120), (4, 121)]⟩) ::
  (121, ⟨false, 1, 24, [.nilS 2], .slice 61⟩) ::
  (61, ⟨true, 2, 40, [.val (.string ⟨#[]⟩), .nilS 1], .str [(0, 9), (1, 40)]⟩) ::
  (30, ⟨false, 1, 24, [.nilS 1], .slice 100⟩) ::
  (100, ⟨false, 1, 24, [.nilS 3], .slice 101⟩) ::
  (101, ⟨true, 3, 48, [.val (.bool false), .val (.string ⟨#[]⟩), .nilS 5], .str [(0, 4), (1, 9), (2, 76)]⟩) ::
  (214, ⟨true, 3, 32, [.val (.string ⟨#[]⟩), .val (.int .i64 0), .val (.bool false)], .str [(0, 9), (1, 3), (2, 4)]⟩) :: T3
theorem tok4 : TOk Tryz.prog T4 :=
  tok_cons (tok1 (z := .agg #[.slice none 0 0, .slice none 0 0]) Tryz.isAgg42 (by kernel_rfl) rfl rfl rfl (by decide) ⟨_, Tryz.underlying42, rfl⟩) <|
  tok_cons (tok1 (z := .slice none 0 0) Tryz.isAgg39 (by kernel_rfl) rfl rfl rfl (by decide) Tryz.underlying39) <|
  tok_cons (tok1 (z := .agg #[.string ⟨#[]⟩, .int .u8 0, .string ⟨#[]⟩, .slice none 0 0, .slice none 0 0]) Tryz.isAgg57 (by kernel_rfl) rfl rfl rfl (by decide) ⟨_, Tryz.underlying57, rfl⟩) <|
  tok_cons (tok1 (z := .slice none 0 0) Tryz.isAgg55 (by kernel_rfl) rfl rfl rfl (by decide) Tryz.underlying55) <|
  tok_cons (tok1 (z := .agg #[.string ⟨#[]⟩, .slice none 0 0]) Tryz.isAgg44 (by kernel_rfl) rfl rfl rfl (by decide) ⟨_, Tryz.underlying44, rfl⟩) <|
  tok_cons (tok1 (z := .slice none 0 0) Tryz.isAgg74 (by kernel_rfl) rfl rfl rfl (by decide) Tryz.underlying74) <|
  tok_cons (tok1 (z := .agg #[.slice none 0 0, .slice none 0 0]) Tryz.isAgg48 (by kernel_rfl) rfl rfl rfl (by decide) ⟨_, Tryz.underlying48, rfl⟩) <|
  tok_cons (tok1 (z := .slice none 0 0) Tryz.isAgg46 (by kernel_rfl) rfl rfl rfl (by decide) Tryz.underlying46) <|
  tok_cons (tok1 (z := .agg #[.string ⟨#[]⟩, .int .u8 0, .string ⟨#[]⟩, .slice none 0 0, .slice none 0 0]) Tryz.isAgg123 (by kernel_rfl) rfl rfl rfl (by decide) ⟨_, Tryz.underlying123, rfl⟩) <|
  tok_cons (tok1 (z := .slice none 0 0) Tryz.isAgg121 (by kernel_rfl) rfl rfl rfl (by decide) Tryz.underlying121) <|
  tok_cons (tok1 (z := .agg #[.string ⟨#[]⟩, .slice none 0 0]) Tryz.isAgg61 (by kernel_rfl) rfl rfl rfl (by decide) ⟨_, Tryz.underlying61, rfl⟩) <|
  tok_cons (tok1 (z := .slice none 0 0) Tryz.isAgg30 (by kernel_rfl) rfl rfl rfl (by decide) Tryz.underlying30) <|
  tok_cons (tok1 (z := .slice none 0 0) Tryz.isAgg100 (by kernel_rfl) rfl rfl rfl (by decide) Tryz.underlying100) <|
  tok_cons (tok1 (z := .agg #[.bool false, .string ⟨#[]⟩, .slice none 0 0]) Tryz.isAgg101 (by kernel_rfl) rfl rfl rfl (by decide) ⟨_, Tryz.underlying101, rfl⟩) <|
  tok_cons (tok1 (z := .agg #[.string ⟨#[]⟩, .int .i64 0, .bool false]) Tryz.isAgg214 (by kernel_rfl) rfl rfl rfl (by decide) ⟨_, Tryz.underlying214, rfl⟩) <| tok3
end Go.Proofs.D
