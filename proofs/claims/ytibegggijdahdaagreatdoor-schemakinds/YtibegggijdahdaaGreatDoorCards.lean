/-
  DERIVED. GIVEN WITH THE SEED: THE CARDS: each row of YtibegggijdahdaaGreatDoorRows.lean that lists a variable, with what it lists TIED to the program's text (the seventh form; the later family's looks); each row that meets fmt, with fmt's text TOLD by the authors' own Lean function (tested against real Go, not proved from fmt's source: count such statements apart). THE CARD IS WHAT COUNTS. Prove the row's statement (the work); the ties are given (YtibegggijdahdaaGreatDoorTie.lean); close each card by the builder's one call (the guide's Derived/Test/ToyasCard.lean, 'card_holds'). Laid BY PROGRAM, IN A SANDBOX (cutbox-door.mjs). By AI agents, Wed Nov 11 2026. No macro, syntax, notation, axiom, sorry.
-/
import Derived.Test.YtibegggijdahdaaGreatDoorRows
import GoSem.ClaimSeven
namespace Go.Proofs.YtibegggijdahdaaGreatDoor
namespace Rows

/-- THE TIED CARD OF 'diptychlaw8.SchemaCompares'. -/
def schemaComparesCard : Claim7 := { stood := { row := schemaComparesRow, standIns := [], harness := (true, "e6e037cf22dd396601ac4af2f7be9b670e6c6947db392ac59b61bf9854510699"), looks := false }, kinds := [], alts := [], laidByText := true, laidKinds := [.data, .data, .data, .data, .pinned], laidTests := true, laidLooks := .later }
def SchemaComparesCardSaid : Prop := Claim7.holds Tryz.pinned (.plain (OpenSpec.ofChange schemaComparesSpec)) schemaComparesCard

/-- THE TIED CARD OF 'diptychlaw8.SchemaBack'. -/
def schemaBackCard : Claim7 := { stood := { row := schemaBackRow, standIns := [], harness := (true, "e6e037cf22dd396601ac4af2f7be9b670e6c6947db392ac59b61bf9854510699"), looks := false }, kinds := [], alts := [], laidByText := true, laidKinds := [.data, .data, .data, .data, .pinned], laidTests := true, laidLooks := .later }
def SchemaBackCardSaid : Prop := Claim7.holds Tryz.pinned (.plain (OpenSpec.ofChange schemaBackSpec)) schemaBackCard

/-- THE TIED CARD OF 'diptychlaw8.SchemaKinds'. -/
def schemaKindsCard : Claim7 := { stood := { row := schemaKindsRow, standIns := [], harness := (true, "e6e037cf22dd396601ac4af2f7be9b670e6c6947db392ac59b61bf9854510699"), looks := false }, kinds := [], alts := [], laidByText := true, laidKinds := [.data, .data, .data, .data, .pinned], laidTests := true, laidLooks := .later }
def SchemaKindsCardSaid : Prop := Claim7.holds Tryz.pinned (.plain (OpenSpec.ofChange schemaKindsSpec)) schemaKindsCard

/-- THE TIED CARD OF 'diptychlaw8.SchemaTurned'. -/
def schemaTurnedCard : Claim7 := { stood := { row := schemaTurnedRow, standIns := [], harness := (true, "e6e037cf22dd396601ac4af2f7be9b670e6c6947db392ac59b61bf9854510699"), looks := false }, kinds := [], alts := [], laidByText := true, laidKinds := [.data, .data, .data, .data, .pinned], laidTests := true, laidLooks := .later }
def SchemaTurnedCardSaid : Prop := Claim7.holds Tryz.pinned (.plain (OpenSpec.ofChange schemaTurnedSpec)) schemaTurnedCard

/-- THE TIED CARD OF 'diptychlaw8.SchemaLines'. -/
def schemaLinesCard : Claim7 := { stood := { row := schemaLinesRow, standIns := [], harness := (true, "e6e037cf22dd396601ac4af2f7be9b670e6c6947db392ac59b61bf9854510699"), looks := false }, kinds := [], alts := [], laidByText := true, laidKinds := [.data, .data, .data, .data, .pinned], laidTests := true, laidLooks := .later }
def SchemaLinesCardSaid : Prop := Claim7.holds Tryz.pinned (.plain (OpenSpec.ofChange schemaLinesSpec)) schemaLinesCard

/-- THE SECOND FORM's CARD OF 'diptychlaw8.SchemaCompares'. -/
def schemaComparesUptoCard : Claim7 := { stood := { row := schemaComparesUptoRow, standIns := [], harness := (true, "e6e037cf22dd396601ac4af2f7be9b670e6c6947db392ac59b61bf9854510699"), looks := false }, kinds := [], alts := [], laidByText := true, laidKinds := [.data, .data, .data, .data, .pinned], laidTests := true, laidLooks := .later }
def SchemaComparesUptoCardSaid : Prop := Claim7.holds Tryz.pinned (.plain (OpenSpec.upto schemaComparesSpec)) schemaComparesUptoCard

/-- THE SECOND FORM's CARD OF 'diptychlaw8.SchemaBack'. -/
def schemaBackUptoCard : Claim7 := { stood := { row := schemaBackUptoRow, standIns := [], harness := (true, "e6e037cf22dd396601ac4af2f7be9b670e6c6947db392ac59b61bf9854510699"), looks := false }, kinds := [], alts := [], laidByText := true, laidKinds := [.data, .data, .data, .data, .pinned], laidTests := true, laidLooks := .later }
def SchemaBackUptoCardSaid : Prop := Claim7.holds Tryz.pinned (.plain (OpenSpec.upto schemaBackSpec)) schemaBackUptoCard

/-- THE SECOND FORM's CARD OF 'diptychlaw8.SchemaKinds'. -/
def schemaKindsUptoCard : Claim7 := { stood := { row := schemaKindsUptoRow, standIns := [], harness := (true, "e6e037cf22dd396601ac4af2f7be9b670e6c6947db392ac59b61bf9854510699"), looks := false }, kinds := [], alts := [], laidByText := true, laidKinds := [.data, .data, .data, .data, .pinned], laidTests := true, laidLooks := .later }
def SchemaKindsUptoCardSaid : Prop := Claim7.holds Tryz.pinned (.plain (OpenSpec.upto schemaKindsSpec)) schemaKindsUptoCard

/-- THE SECOND FORM's CARD OF 'diptychlaw8.SchemaTurned'. -/
def schemaTurnedUptoCard : Claim7 := { stood := { row := schemaTurnedUptoRow, standIns := [], harness := (true, "e6e037cf22dd396601ac4af2f7be9b670e6c6947db392ac59b61bf9854510699"), looks := false }, kinds := [], alts := [], laidByText := true, laidKinds := [.data, .data, .data, .data, .pinned], laidTests := true, laidLooks := .later }
def SchemaTurnedUptoCardSaid : Prop := Claim7.holds Tryz.pinned (.plain (OpenSpec.upto schemaTurnedSpec)) schemaTurnedUptoCard

/-- THE SECOND FORM's CARD OF 'diptychlaw8.SchemaLines'. -/
def schemaLinesUptoCard : Claim7 := { stood := { row := schemaLinesUptoRow, standIns := [], harness := (true, "e6e037cf22dd396601ac4af2f7be9b670e6c6947db392ac59b61bf9854510699"), looks := false }, kinds := [], alts := [], laidByText := true, laidKinds := [.data, .data, .data, .data, .pinned], laidTests := true, laidLooks := .later }
def SchemaLinesUptoCardSaid : Prop := Claim7.holds Tryz.pinned (.plain (OpenSpec.upto schemaLinesSpec)) schemaLinesUptoCard
end Rows
end Go.Proofs.YtibegggijdahdaaGreatDoor
