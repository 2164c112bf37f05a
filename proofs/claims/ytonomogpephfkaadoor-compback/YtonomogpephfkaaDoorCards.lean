/-
  DERIVED. GIVEN WITH THE SEED: THE CARDS: each row of YtonomogpephfkaaDoorRows.lean that lists a variable, with what it lists TIED to the program's text (the seventh form; the later family's looks); each row that meets fmt, with fmt's text TOLD by the authors' own Lean function (tested against real Go, not proved from fmt's source: count such statements apart). THE CARD IS WHAT COUNTS. Prove the row's statement (the work); the ties are given (YtonomogpephfkaaDoorTie.lean); close each card by the builder's one call (the guide's Derived/Test/ToyasCard.lean, 'card_holds'). Laid BY PROGRAM, IN A SANDBOX (cutbox-door.mjs). By AI agents, Wed Nov 11 2026. No macro, syntax, notation, axiom, sorry.
-/
import Derived.Test.YtonomogpephfkaaDoorRows
import GoSem.ClaimSeven
namespace Go.Proofs.YtonomogpephfkaaDoor
namespace Rows

/-- THE TIED CARD OF 'diptychlaw6.ExprParses'. -/
def exprParsesCard : Claim7 := { stood := { row := exprParsesRow, standIns := [], harness := (true, "e4a594bf4e5c503085ad8dbada11b5e4dc00ae1934b4694b05772b004f6f795f"), looks := false }, kinds := [], alts := [], laidByText := true, laidKinds := [.data, .pinned], laidTests := true, laidLooks := .later }
def ExprParsesCardSaid : Prop := Claim7.holds Tryd.pinned (.plain (OpenSpec.ofChange exprParsesSpec)) exprParsesCard

/-- THE TIED CARD OF 'diptychlaw6.ExprBack'. -/
def exprBackCard : Claim7 := { stood := { row := exprBackRow, standIns := [], harness := (true, "e4a594bf4e5c503085ad8dbada11b5e4dc00ae1934b4694b05772b004f6f795f"), looks := false }, kinds := [], alts := [], laidByText := true, laidKinds := [.data, .pinned], laidTests := true, laidLooks := .later }
def ExprBackCardSaid : Prop := Claim7.holds Tryd.pinned (.plain (OpenSpec.ofChange exprBackSpec)) exprBackCard

/-- THE TIED CARD OF 'diptychlaw6.ExprGrows'. -/
def exprGrowsCard : Claim7 := { stood := { row := exprGrowsRow, standIns := [], harness := (true, "e4a594bf4e5c503085ad8dbada11b5e4dc00ae1934b4694b05772b004f6f795f"), looks := false }, kinds := [], alts := [], laidByText := true, laidKinds := [.data, .pinned], laidTests := true, laidLooks := .later }
def ExprGrowsCardSaid : Prop := Claim7.holds Tryd.pinned (.plain (OpenSpec.ofChange exprGrowsSpec)) exprGrowsCard

/-- THE TIED CARD OF 'diptychlaw6.ExprParts'. -/
def exprPartsCard : Claim7 := { stood := { row := exprPartsRow, standIns := [], harness := (true, "e4a594bf4e5c503085ad8dbada11b5e4dc00ae1934b4694b05772b004f6f795f"), looks := false }, kinds := [], alts := [], laidByText := true, laidKinds := [.data, .pinned], laidTests := true, laidLooks := .later }
def ExprPartsCardSaid : Prop := Claim7.holds Tryd.pinned (.plain (OpenSpec.ofChange exprPartsSpec)) exprPartsCard

/-- THE TIED CARD OF 'diptychlaw6.ExprStars'. -/
def exprStarsCard : Claim7 := { stood := { row := exprStarsRow, standIns := [], harness := (true, "e4a594bf4e5c503085ad8dbada11b5e4dc00ae1934b4694b05772b004f6f795f"), looks := false }, kinds := [], alts := [], laidByText := true, laidKinds := [.data, .pinned], laidTests := true, laidLooks := .later }
def ExprStarsCardSaid : Prop := Claim7.holds Tryd.pinned (.plain (OpenSpec.ofChange exprStarsSpec)) exprStarsCard

/-- THE TIED CARD OF 'diptychlaw15.CompSame'. -/
def compSameCard : Claim7 := { stood := { row := compSameRow, standIns := [], harness := (true, "e4a594bf4e5c503085ad8dbada11b5e4dc00ae1934b4694b05772b004f6f795f"), looks := false }, kinds := [], alts := [], laidByText := true, laidKinds := [.data, .pinned], laidTests := true, laidLooks := .later }
def CompSameCardSaid : Prop := Claim7.holds Tryd.pinned (.plain (OpenSpec.ofChange compSameSpec)) compSameCard

/-- THE TIED CARD OF 'diptychlaw6.ExprNames'. -/
def exprNamesCard : Claim7 := { stood := { row := exprNamesRow, standIns := [], harness := (true, "e4a594bf4e5c503085ad8dbada11b5e4dc00ae1934b4694b05772b004f6f795f"), looks := false }, kinds := [], alts := [], laidByText := true, laidKinds := [.data, .pinned], laidTests := true, laidLooks := .later }
def ExprNamesCardSaid : Prop := Claim7.holds Tryd.pinned (.plain (OpenSpec.ofChange exprNamesSpec)) exprNamesCard

/-- THE TIED CARD OF 'diptychlaw6.ExprRenames'. -/
def exprRenamesCard : Claim7 := { stood := { row := exprRenamesRow, standIns := [], harness := (true, "e4a594bf4e5c503085ad8dbada11b5e4dc00ae1934b4694b05772b004f6f795f"), looks := false }, kinds := [], alts := [], laidByText := true, laidKinds := [.data, .pinned], laidTests := true, laidLooks := .later }
def ExprRenamesCardSaid : Prop := Claim7.holds Tryd.pinned (.plain (OpenSpec.ofChange exprRenamesSpec)) exprRenamesCard

/-- THE TIED CARD OF 'diptychlaw15.CompBack'. -/
def compBackCard : Claim7 := { stood := { row := compBackRow, standIns := [], harness := (true, "e4a594bf4e5c503085ad8dbada11b5e4dc00ae1934b4694b05772b004f6f795f"), looks := false }, kinds := [], alts := [], laidByText := true, laidKinds := [.data, .pinned], laidTests := true, laidLooks := .later }
def CompBackCardSaid : Prop := Claim7.holds Tryd.pinned (.plain (OpenSpec.ofChange compBackSpec)) compBackCard

/-- THE SECOND FORM's CARD OF 'diptychlaw6.ExprParses'. -/
def exprParsesUptoCard : Claim7 := { stood := { row := exprParsesUptoRow, standIns := [], harness := (true, "e4a594bf4e5c503085ad8dbada11b5e4dc00ae1934b4694b05772b004f6f795f"), looks := false }, kinds := [], alts := [], laidByText := true, laidKinds := [.data, .pinned], laidTests := true, laidLooks := .later }
def ExprParsesUptoCardSaid : Prop := Claim7.holds Tryd.pinned (.plain (OpenSpec.upto exprParsesSpec)) exprParsesUptoCard

/-- THE SECOND FORM's CARD OF 'diptychlaw6.ExprBack'. -/
def exprBackUptoCard : Claim7 := { stood := { row := exprBackUptoRow, standIns := [], harness := (true, "e4a594bf4e5c503085ad8dbada11b5e4dc00ae1934b4694b05772b004f6f795f"), looks := false }, kinds := [], alts := [], laidByText := true, laidKinds := [.data, .pinned], laidTests := true, laidLooks := .later }
def ExprBackUptoCardSaid : Prop := Claim7.holds Tryd.pinned (.plain (OpenSpec.upto exprBackSpec)) exprBackUptoCard

/-- THE SECOND FORM's CARD OF 'diptychlaw6.ExprGrows'. -/
def exprGrowsUptoCard : Claim7 := { stood := { row := exprGrowsUptoRow, standIns := [], harness := (true, "e4a594bf4e5c503085ad8dbada11b5e4dc00ae1934b4694b05772b004f6f795f"), looks := false }, kinds := [], alts := [], laidByText := true, laidKinds := [.data, .pinned], laidTests := true, laidLooks := .later }
def ExprGrowsUptoCardSaid : Prop := Claim7.holds Tryd.pinned (.plain (OpenSpec.upto exprGrowsSpec)) exprGrowsUptoCard

/-- THE SECOND FORM's CARD OF 'diptychlaw6.ExprParts'. -/
def exprPartsUptoCard : Claim7 := { stood := { row := exprPartsUptoRow, standIns := [], harness := (true, "e4a594bf4e5c503085ad8dbada11b5e4dc00ae1934b4694b05772b004f6f795f"), looks := false }, kinds := [], alts := [], laidByText := true, laidKinds := [.data, .pinned], laidTests := true, laidLooks := .later }
def ExprPartsUptoCardSaid : Prop := Claim7.holds Tryd.pinned (.plain (OpenSpec.upto exprPartsSpec)) exprPartsUptoCard

/-- THE SECOND FORM's CARD OF 'diptychlaw6.ExprStars'. -/
def exprStarsUptoCard : Claim7 := { stood := { row := exprStarsUptoRow, standIns := [], harness := (true, "e4a594bf4e5c503085ad8dbada11b5e4dc00ae1934b4694b05772b004f6f795f"), looks := false }, kinds := [], alts := [], laidByText := true, laidKinds := [.data, .pinned], laidTests := true, laidLooks := .later }
def ExprStarsUptoCardSaid : Prop := Claim7.holds Tryd.pinned (.plain (OpenSpec.upto exprStarsSpec)) exprStarsUptoCard

/-- THE SECOND FORM's CARD OF 'diptychlaw15.CompSame'. -/
def compSameUptoCard : Claim7 := { stood := { row := compSameUptoRow, standIns := [], harness := (true, "e4a594bf4e5c503085ad8dbada11b5e4dc00ae1934b4694b05772b004f6f795f"), looks := false }, kinds := [], alts := [], laidByText := true, laidKinds := [.data, .pinned], laidTests := true, laidLooks := .later }
def CompSameUptoCardSaid : Prop := Claim7.holds Tryd.pinned (.plain (OpenSpec.upto compSameSpec)) compSameUptoCard

/-- THE SECOND FORM's CARD OF 'diptychlaw6.ExprNames'. -/
def exprNamesUptoCard : Claim7 := { stood := { row := exprNamesUptoRow, standIns := [], harness := (true, "e4a594bf4e5c503085ad8dbada11b5e4dc00ae1934b4694b05772b004f6f795f"), looks := false }, kinds := [], alts := [], laidByText := true, laidKinds := [.data, .pinned], laidTests := true, laidLooks := .later }
def ExprNamesUptoCardSaid : Prop := Claim7.holds Tryd.pinned (.plain (OpenSpec.upto exprNamesSpec)) exprNamesUptoCard

/-- THE SECOND FORM's CARD OF 'diptychlaw6.ExprRenames'. -/
def exprRenamesUptoCard : Claim7 := { stood := { row := exprRenamesUptoRow, standIns := [], harness := (true, "e4a594bf4e5c503085ad8dbada11b5e4dc00ae1934b4694b05772b004f6f795f"), looks := false }, kinds := [], alts := [], laidByText := true, laidKinds := [.data, .pinned], laidTests := true, laidLooks := .later }
def ExprRenamesUptoCardSaid : Prop := Claim7.holds Tryd.pinned (.plain (OpenSpec.upto exprRenamesSpec)) exprRenamesUptoCard

/-- THE SECOND FORM's CARD OF 'diptychlaw15.CompBack'. -/
def compBackUptoCard : Claim7 := { stood := { row := compBackUptoRow, standIns := [], harness := (true, "e4a594bf4e5c503085ad8dbada11b5e4dc00ae1934b4694b05772b004f6f795f"), looks := false }, kinds := [], alts := [], laidByText := true, laidKinds := [.data, .pinned], laidTests := true, laidLooks := .later }
def CompBackUptoCardSaid : Prop := Claim7.holds Tryd.pinned (.plain (OpenSpec.upto compBackSpec)) compBackUptoCard
end Rows
end Go.Proofs.YtonomogpephfkaaDoor
