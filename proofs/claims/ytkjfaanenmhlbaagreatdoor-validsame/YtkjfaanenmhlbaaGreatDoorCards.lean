/-
  DERIVED. GIVEN WITH THE SEED: THE CARDS: each row of YtkjfaanenmhlbaaGreatDoorRows.lean that lists a variable, with what it lists TIED to the program's text (the seventh form; the later family's looks); each row that meets fmt, with fmt's text TOLD by the authors' own Lean function (tested against real Go, not proved from fmt's source: count such statements apart). THE CARD IS WHAT COUNTS. Prove the row's statement (the work); the ties are given (YtkjfaanenmhlbaaGreatDoorTie.lean); close each card by the builder's one call (the guide's Derived/Test/ToyasCard.lean, 'card_holds'). Laid BY PROGRAM, IN A SANDBOX (cutbox-door.mjs). By AI agents, Wed Nov 11 2026. No macro, syntax, notation, axiom, sorry.
-/
import Derived.Test.YtkjfaanenmhlbaaGreatDoorRows
import GoSem.ClaimSeven
namespace Go.Proofs.YtkjfaanenmhlbaaGreatDoor
namespace Rows

/-- THE TIED CARD OF 'diptychlaw14.CheckTargets'. -/
def checkTargetsCard : Claim7 := { stood := { row := checkTargetsRow, standIns := [], harness := (true, "902052721bba7d54cf7043f136577f2ef58695ab84dbab5473ce9c1c5def9685"), looks := false }, kinds := [], alts := [], laidByText := true, laidKinds := [.data, .pinned], laidTests := true, laidLooks := .later }
def CheckTargetsCardSaid : Prop := Claim7.holds Tryz.pinned (.plain (OpenSpec.ofChange checkTargetsSpec)) checkTargetsCard

/-- THE TIED CARD OF 'diptychlaw9.ValidParts'. -/
def validPartsCard : Claim7 := { stood := { row := validPartsRow, standIns := [], harness := (true, "902052721bba7d54cf7043f136577f2ef58695ab84dbab5473ce9c1c5def9685"), looks := false }, kinds := [], alts := [], laidByText := true, laidKinds := [.data, .data, .data, .data, .pinned], laidTests := true, laidLooks := .later }
def ValidPartsCardSaid : Prop := Claim7.holds Tryz.pinned (.plain (OpenSpec.ofChange validPartsSpec)) validPartsCard

/-- THE TIED CARD OF 'diptychlaw9.ValidOnly'. -/
def validOnlyCard : Claim7 := { stood := { row := validOnlyRow, standIns := [], harness := (true, "902052721bba7d54cf7043f136577f2ef58695ab84dbab5473ce9c1c5def9685"), looks := false }, kinds := [], alts := [], laidByText := true, laidKinds := [.data, .data, .data, .data, .pinned], laidTests := true, laidLooks := .later }
def ValidOnlyCardSaid : Prop := Claim7.holds Tryz.pinned (.plain (OpenSpec.ofChange validOnlySpec)) validOnlyCard

/-- THE TIED CARD OF 'diptychlaw9.ValidFresh'. -/
def validFreshCard : Claim7 := { stood := { row := validFreshRow, standIns := [], harness := (true, "902052721bba7d54cf7043f136577f2ef58695ab84dbab5473ce9c1c5def9685"), looks := false }, kinds := [], alts := [], laidByText := true, laidKinds := [.data, .data, .data, .data, .pinned], laidTests := true, laidLooks := .later }
def ValidFreshCardSaid : Prop := Claim7.holds Tryz.pinned (.plain (OpenSpec.ofChange validFreshSpec)) validFreshCard

/-- THE TIED CARD OF 'diptychlaw9.ValidBooks'. -/
def validBooksCard : Claim7 := { stood := { row := validBooksRow, standIns := [], harness := (true, "902052721bba7d54cf7043f136577f2ef58695ab84dbab5473ce9c1c5def9685"), looks := false }, kinds := [], alts := [], laidByText := true, laidKinds := [.data, .data, .data, .data, .pinned], laidTests := true, laidLooks := .later }
def ValidBooksCardSaid : Prop := Claim7.holds Tryz.pinned (.plain (OpenSpec.ofChange validBooksSpec)) validBooksCard

/-- THE TIED CARD OF 'diptychlaw9.ValidSame'. -/
def validSameCard : Claim7 := { stood := { row := validSameRow, standIns := [], harness := (true, "902052721bba7d54cf7043f136577f2ef58695ab84dbab5473ce9c1c5def9685"), looks := false }, kinds := [], alts := [], laidByText := true, laidKinds := [.data, .data, .data, .data, .pinned], laidTests := true, laidLooks := .later }
def ValidSameCardSaid : Prop := Claim7.holds Tryz.pinned (.plain (OpenSpec.ofChange validSameSpec)) validSameCard

/-- THE SECOND FORM's CARD OF 'diptychlaw14.CheckTargets'. -/
def checkTargetsUptoCard : Claim7 := { stood := { row := checkTargetsUptoRow, standIns := [], harness := (true, "902052721bba7d54cf7043f136577f2ef58695ab84dbab5473ce9c1c5def9685"), looks := false }, kinds := [], alts := [], laidByText := true, laidKinds := [.data, .pinned], laidTests := true, laidLooks := .later }
def CheckTargetsUptoCardSaid : Prop := Claim7.holds Tryz.pinned (.plain (OpenSpec.upto checkTargetsSpec)) checkTargetsUptoCard

/-- THE SECOND FORM's CARD OF 'diptychlaw9.ValidParts'. -/
def validPartsUptoCard : Claim7 := { stood := { row := validPartsUptoRow, standIns := [], harness := (true, "902052721bba7d54cf7043f136577f2ef58695ab84dbab5473ce9c1c5def9685"), looks := false }, kinds := [], alts := [], laidByText := true, laidKinds := [.data, .data, .data, .data, .pinned], laidTests := true, laidLooks := .later }
def ValidPartsUptoCardSaid : Prop := Claim7.holds Tryz.pinned (.plain (OpenSpec.upto validPartsSpec)) validPartsUptoCard

/-- THE SECOND FORM's CARD OF 'diptychlaw9.ValidOnly'. -/
def validOnlyUptoCard : Claim7 := { stood := { row := validOnlyUptoRow, standIns := [], harness := (true, "902052721bba7d54cf7043f136577f2ef58695ab84dbab5473ce9c1c5def9685"), looks := false }, kinds := [], alts := [], laidByText := true, laidKinds := [.data, .data, .data, .data, .pinned], laidTests := true, laidLooks := .later }
def ValidOnlyUptoCardSaid : Prop := Claim7.holds Tryz.pinned (.plain (OpenSpec.upto validOnlySpec)) validOnlyUptoCard

/-- THE SECOND FORM's CARD OF 'diptychlaw9.ValidFresh'. -/
def validFreshUptoCard : Claim7 := { stood := { row := validFreshUptoRow, standIns := [], harness := (true, "902052721bba7d54cf7043f136577f2ef58695ab84dbab5473ce9c1c5def9685"), looks := false }, kinds := [], alts := [], laidByText := true, laidKinds := [.data, .data, .data, .data, .pinned], laidTests := true, laidLooks := .later }
def ValidFreshUptoCardSaid : Prop := Claim7.holds Tryz.pinned (.plain (OpenSpec.upto validFreshSpec)) validFreshUptoCard

/-- THE SECOND FORM's CARD OF 'diptychlaw9.ValidBooks'. -/
def validBooksUptoCard : Claim7 := { stood := { row := validBooksUptoRow, standIns := [], harness := (true, "902052721bba7d54cf7043f136577f2ef58695ab84dbab5473ce9c1c5def9685"), looks := false }, kinds := [], alts := [], laidByText := true, laidKinds := [.data, .data, .data, .data, .pinned], laidTests := true, laidLooks := .later }
def ValidBooksUptoCardSaid : Prop := Claim7.holds Tryz.pinned (.plain (OpenSpec.upto validBooksSpec)) validBooksUptoCard

/-- THE SECOND FORM's CARD OF 'diptychlaw9.ValidSame'. -/
def validSameUptoCard : Claim7 := { stood := { row := validSameUptoRow, standIns := [], harness := (true, "902052721bba7d54cf7043f136577f2ef58695ab84dbab5473ce9c1c5def9685"), looks := false }, kinds := [], alts := [], laidByText := true, laidKinds := [.data, .data, .data, .data, .pinned], laidTests := true, laidLooks := .later }
def ValidSameUptoCardSaid : Prop := Claim7.holds Tryz.pinned (.plain (OpenSpec.upto validSameSpec)) validSameUptoCard
end Rows
end Go.Proofs.YtkjfaanenmhlbaaGreatDoor
