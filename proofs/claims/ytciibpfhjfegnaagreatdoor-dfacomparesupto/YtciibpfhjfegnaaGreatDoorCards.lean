/-
  DERIVED. GIVEN WITH THE SEED: THE CARDS: each row of YtciibpfhjfegnaaGreatDoorRows.lean that lists a variable, with what it lists TIED to the program's text (the seventh form; the later family's looks); each row that meets fmt, with fmt's text TOLD by the authors' own Lean function (tested against real Go, not proved from fmt's source: count such statements apart). THE CARD IS WHAT COUNTS. Prove the row's statement (the work); the ties are given (YtciibpfhjfegnaaGreatDoorTie.lean); close each card by the builder's one call (the guide's Derived/Test/ToyasCard.lean, 'card_holds'). Laid BY PROGRAM, IN A SANDBOX (cutbox-door.mjs). By AI agents, Wed Nov 11 2026. No macro, syntax, notation, axiom, sorry.
-/
import Derived.Test.YtciibpfhjfegnaaGreatDoorRows
import GoSem.ClaimSeven
namespace Go.Proofs.YtciibpfhjfegnaaGreatDoor
namespace Rows

/-- THE TIED CARD OF 'diptychlaw7.DfaSteps'. -/
def dfaStepsCard : Claim7 := { stood := { row := dfaStepsRow, standIns := [], harness := (true, "7cb460bd35ffcc66347226e5255fc9fe75425259a2245e777688f715793df47e"), looks := false }, kinds := [], alts := [], laidByText := true, laidKinds := [.data, .data, .data, .data, .pinned], laidTests := true, laidLooks := .later }
def DfaStepsCardSaid : Prop := Claim7.holds Tryz.pinned (.plain (OpenSpec.ofChange dfaStepsSpec)) dfaStepsCard

/-- THE TIED CARD OF 'diptychlaw7.DfaRenames'. -/
def dfaRenamesCard : Claim7 := { stood := { row := dfaRenamesRow, standIns := [], harness := (true, "7cb460bd35ffcc66347226e5255fc9fe75425259a2245e777688f715793df47e"), looks := false }, kinds := [], alts := [], laidByText := true, laidKinds := [.data, .data, .data, .data, .pinned], laidTests := true, laidLooks := .later }
def DfaRenamesCardSaid : Prop := Claim7.holds Tryz.pinned (.plain (OpenSpec.ofChange dfaRenamesSpec)) dfaRenamesCard

/-- THE TIED CARD OF 'diptychlaw7.DfaApart'. -/
def dfaApartCard : Claim7 := { stood := { row := dfaApartRow, standIns := [], harness := (true, "7cb460bd35ffcc66347226e5255fc9fe75425259a2245e777688f715793df47e"), looks := false }, kinds := [], alts := [], laidByText := true, laidKinds := [.data, .data, .data, .data, .pinned], laidTests := true, laidLooks := .later }
def DfaApartCardSaid : Prop := Claim7.holds Tryz.pinned (.plain (OpenSpec.ofChange dfaApartSpec)) dfaApartCard

/-- THE TIED CARD OF 'diptychlaw7.DfaLeast'. -/
def dfaLeastCard : Claim7 := { stood := { row := dfaLeastRow, standIns := [], harness := (true, "7cb460bd35ffcc66347226e5255fc9fe75425259a2245e777688f715793df47e"), looks := false }, kinds := [], alts := [], laidByText := true, laidKinds := [.data, .data, .data, .data, .pinned], laidTests := true, laidLooks := .later }
def DfaLeastCardSaid : Prop := Claim7.holds Tryz.pinned (.plain (OpenSpec.ofChange dfaLeastSpec)) dfaLeastCard

/-- THE TIED CARD OF 'diptychlaw7.DfaOrder'. -/
def dfaOrderCard : Claim7 := { stood := { row := dfaOrderRow, standIns := [], harness := (true, "7cb460bd35ffcc66347226e5255fc9fe75425259a2245e777688f715793df47e"), looks := false }, kinds := [], alts := [], laidByText := true, laidKinds := [.data, .data, .data, .data, .pinned], laidTests := true, laidLooks := .later }
def DfaOrderCardSaid : Prop := Claim7.holds Tryz.pinned (.plain (OpenSpec.ofChange dfaOrderSpec)) dfaOrderCard

/-- THE TIED CARD OF 'diptychlaw7.DfaCompares'. -/
def dfaComparesCard : Claim7 := { stood := { row := dfaComparesRow, standIns := [], harness := (true, "7cb460bd35ffcc66347226e5255fc9fe75425259a2245e777688f715793df47e"), looks := false }, kinds := [], alts := [], laidByText := true, laidKinds := [.data, .data, .data, .data, .pinned], laidTests := true, laidLooks := .later }
def DfaComparesCardSaid : Prop := Claim7.holds Tryz.pinned (.plain (OpenSpec.ofChange dfaComparesSpec)) dfaComparesCard

/-- THE TIED CARD OF 'diptychlaw7.DfaMeans'. -/
def dfaMeansCard : Claim7 := { stood := { row := dfaMeansRow, standIns := [], harness := (true, "7cb460bd35ffcc66347226e5255fc9fe75425259a2245e777688f715793df47e"), looks := false }, kinds := [], alts := [], laidByText := true, laidKinds := [.data, .data, .data, .data, .pinned], laidTests := true, laidLooks := .later }
def DfaMeansCardSaid : Prop := Claim7.holds Tryz.pinned (.plain (OpenSpec.ofChange dfaMeansSpec)) dfaMeansCard

/-- THE TIED CARD OF 'diptychlaw8.SchemaCompares'. -/
def schemaComparesCard : Claim7 := { stood := { row := schemaComparesRow, standIns := [], harness := (true, "7cb460bd35ffcc66347226e5255fc9fe75425259a2245e777688f715793df47e"), looks := false }, kinds := [], alts := [], laidByText := true, laidKinds := [.data, .data, .data, .data, .pinned], laidTests := true, laidLooks := .later }
def SchemaComparesCardSaid : Prop := Claim7.holds Tryz.pinned (.plain (OpenSpec.ofChange schemaComparesSpec)) schemaComparesCard

/-- THE TIED CARD OF 'diptychlaw8.SchemaBack'. -/
def schemaBackCard : Claim7 := { stood := { row := schemaBackRow, standIns := [], harness := (true, "7cb460bd35ffcc66347226e5255fc9fe75425259a2245e777688f715793df47e"), looks := false }, kinds := [], alts := [], laidByText := true, laidKinds := [.data, .data, .data, .data, .pinned], laidTests := true, laidLooks := .later }
def SchemaBackCardSaid : Prop := Claim7.holds Tryz.pinned (.plain (OpenSpec.ofChange schemaBackSpec)) schemaBackCard

/-- THE TIED CARD OF 'diptychlaw8.SchemaKinds'. -/
def schemaKindsCard : Claim7 := { stood := { row := schemaKindsRow, standIns := [], harness := (true, "7cb460bd35ffcc66347226e5255fc9fe75425259a2245e777688f715793df47e"), looks := false }, kinds := [], alts := [], laidByText := true, laidKinds := [.data, .data, .data, .data, .pinned], laidTests := true, laidLooks := .later }
def SchemaKindsCardSaid : Prop := Claim7.holds Tryz.pinned (.plain (OpenSpec.ofChange schemaKindsSpec)) schemaKindsCard

/-- THE TIED CARD OF 'diptychlaw8.SchemaTurned'. -/
def schemaTurnedCard : Claim7 := { stood := { row := schemaTurnedRow, standIns := [], harness := (true, "7cb460bd35ffcc66347226e5255fc9fe75425259a2245e777688f715793df47e"), looks := false }, kinds := [], alts := [], laidByText := true, laidKinds := [.data, .data, .data, .data, .pinned], laidTests := true, laidLooks := .later }
def SchemaTurnedCardSaid : Prop := Claim7.holds Tryz.pinned (.plain (OpenSpec.ofChange schemaTurnedSpec)) schemaTurnedCard

/-- THE TIED CARD OF 'diptychlaw8.SchemaLines'. -/
def schemaLinesCard : Claim7 := { stood := { row := schemaLinesRow, standIns := [], harness := (true, "7cb460bd35ffcc66347226e5255fc9fe75425259a2245e777688f715793df47e"), looks := false }, kinds := [], alts := [], laidByText := true, laidKinds := [.data, .data, .data, .data, .pinned], laidTests := true, laidLooks := .later }
def SchemaLinesCardSaid : Prop := Claim7.holds Tryz.pinned (.plain (OpenSpec.ofChange schemaLinesSpec)) schemaLinesCard

/-- THE SECOND FORM's CARD OF 'diptychlaw7.DfaSteps'. -/
def dfaStepsUptoCard : Claim7 := { stood := { row := dfaStepsUptoRow, standIns := [], harness := (true, "7cb460bd35ffcc66347226e5255fc9fe75425259a2245e777688f715793df47e"), looks := false }, kinds := [], alts := [], laidByText := true, laidKinds := [.data, .data, .data, .data, .pinned], laidTests := true, laidLooks := .later }
def DfaStepsUptoCardSaid : Prop := Claim7.holds Tryz.pinned (.plain (OpenSpec.upto dfaStepsSpec)) dfaStepsUptoCard

/-- THE SECOND FORM's CARD OF 'diptychlaw7.DfaRenames'. -/
def dfaRenamesUptoCard : Claim7 := { stood := { row := dfaRenamesUptoRow, standIns := [], harness := (true, "7cb460bd35ffcc66347226e5255fc9fe75425259a2245e777688f715793df47e"), looks := false }, kinds := [], alts := [], laidByText := true, laidKinds := [.data, .data, .data, .data, .pinned], laidTests := true, laidLooks := .later }
def DfaRenamesUptoCardSaid : Prop := Claim7.holds Tryz.pinned (.plain (OpenSpec.upto dfaRenamesSpec)) dfaRenamesUptoCard

/-- THE SECOND FORM's CARD OF 'diptychlaw7.DfaApart'. -/
def dfaApartUptoCard : Claim7 := { stood := { row := dfaApartUptoRow, standIns := [], harness := (true, "7cb460bd35ffcc66347226e5255fc9fe75425259a2245e777688f715793df47e"), looks := false }, kinds := [], alts := [], laidByText := true, laidKinds := [.data, .data, .data, .data, .pinned], laidTests := true, laidLooks := .later }
def DfaApartUptoCardSaid : Prop := Claim7.holds Tryz.pinned (.plain (OpenSpec.upto dfaApartSpec)) dfaApartUptoCard

/-- THE SECOND FORM's CARD OF 'diptychlaw7.DfaLeast'. -/
def dfaLeastUptoCard : Claim7 := { stood := { row := dfaLeastUptoRow, standIns := [], harness := (true, "7cb460bd35ffcc66347226e5255fc9fe75425259a2245e777688f715793df47e"), looks := false }, kinds := [], alts := [], laidByText := true, laidKinds := [.data, .data, .data, .data, .pinned], laidTests := true, laidLooks := .later }
def DfaLeastUptoCardSaid : Prop := Claim7.holds Tryz.pinned (.plain (OpenSpec.upto dfaLeastSpec)) dfaLeastUptoCard

/-- THE SECOND FORM's CARD OF 'diptychlaw7.DfaOrder'. -/
def dfaOrderUptoCard : Claim7 := { stood := { row := dfaOrderUptoRow, standIns := [], harness := (true, "7cb460bd35ffcc66347226e5255fc9fe75425259a2245e777688f715793df47e"), looks := false }, kinds := [], alts := [], laidByText := true, laidKinds := [.data, .data, .data, .data, .pinned], laidTests := true, laidLooks := .later }
def DfaOrderUptoCardSaid : Prop := Claim7.holds Tryz.pinned (.plain (OpenSpec.upto dfaOrderSpec)) dfaOrderUptoCard

/-- THE SECOND FORM's CARD OF 'diptychlaw7.DfaCompares'. -/
def dfaComparesUptoCard : Claim7 := { stood := { row := dfaComparesUptoRow, standIns := [], harness := (true, "7cb460bd35ffcc66347226e5255fc9fe75425259a2245e777688f715793df47e"), looks := false }, kinds := [], alts := [], laidByText := true, laidKinds := [.data, .data, .data, .data, .pinned], laidTests := true, laidLooks := .later }
def DfaComparesUptoCardSaid : Prop := Claim7.holds Tryz.pinned (.plain (OpenSpec.upto dfaComparesSpec)) dfaComparesUptoCard

/-- THE SECOND FORM's CARD OF 'diptychlaw7.DfaMeans'. -/
def dfaMeansUptoCard : Claim7 := { stood := { row := dfaMeansUptoRow, standIns := [], harness := (true, "7cb460bd35ffcc66347226e5255fc9fe75425259a2245e777688f715793df47e"), looks := false }, kinds := [], alts := [], laidByText := true, laidKinds := [.data, .data, .data, .data, .pinned], laidTests := true, laidLooks := .later }
def DfaMeansUptoCardSaid : Prop := Claim7.holds Tryz.pinned (.plain (OpenSpec.upto dfaMeansSpec)) dfaMeansUptoCard

/-- THE SECOND FORM's CARD OF 'diptychlaw8.SchemaCompares'. -/
def schemaComparesUptoCard : Claim7 := { stood := { row := schemaComparesUptoRow, standIns := [], harness := (true, "7cb460bd35ffcc66347226e5255fc9fe75425259a2245e777688f715793df47e"), looks := false }, kinds := [], alts := [], laidByText := true, laidKinds := [.data, .data, .data, .data, .pinned], laidTests := true, laidLooks := .later }
def SchemaComparesUptoCardSaid : Prop := Claim7.holds Tryz.pinned (.plain (OpenSpec.upto schemaComparesSpec)) schemaComparesUptoCard

/-- THE SECOND FORM's CARD OF 'diptychlaw8.SchemaBack'. -/
def schemaBackUptoCard : Claim7 := { stood := { row := schemaBackUptoRow, standIns := [], harness := (true, "7cb460bd35ffcc66347226e5255fc9fe75425259a2245e777688f715793df47e"), looks := false }, kinds := [], alts := [], laidByText := true, laidKinds := [.data, .data, .data, .data, .pinned], laidTests := true, laidLooks := .later }
def SchemaBackUptoCardSaid : Prop := Claim7.holds Tryz.pinned (.plain (OpenSpec.upto schemaBackSpec)) schemaBackUptoCard

/-- THE SECOND FORM's CARD OF 'diptychlaw8.SchemaKinds'. -/
def schemaKindsUptoCard : Claim7 := { stood := { row := schemaKindsUptoRow, standIns := [], harness := (true, "7cb460bd35ffcc66347226e5255fc9fe75425259a2245e777688f715793df47e"), looks := false }, kinds := [], alts := [], laidByText := true, laidKinds := [.data, .data, .data, .data, .pinned], laidTests := true, laidLooks := .later }
def SchemaKindsUptoCardSaid : Prop := Claim7.holds Tryz.pinned (.plain (OpenSpec.upto schemaKindsSpec)) schemaKindsUptoCard

/-- THE SECOND FORM's CARD OF 'diptychlaw8.SchemaTurned'. -/
def schemaTurnedUptoCard : Claim7 := { stood := { row := schemaTurnedUptoRow, standIns := [], harness := (true, "7cb460bd35ffcc66347226e5255fc9fe75425259a2245e777688f715793df47e"), looks := false }, kinds := [], alts := [], laidByText := true, laidKinds := [.data, .data, .data, .data, .pinned], laidTests := true, laidLooks := .later }
def SchemaTurnedUptoCardSaid : Prop := Claim7.holds Tryz.pinned (.plain (OpenSpec.upto schemaTurnedSpec)) schemaTurnedUptoCard

/-- THE SECOND FORM's CARD OF 'diptychlaw8.SchemaLines'. -/
def schemaLinesUptoCard : Claim7 := { stood := { row := schemaLinesUptoRow, standIns := [], harness := (true, "7cb460bd35ffcc66347226e5255fc9fe75425259a2245e777688f715793df47e"), looks := false }, kinds := [], alts := [], laidByText := true, laidKinds := [.data, .data, .data, .data, .pinned], laidTests := true, laidLooks := .later }
def SchemaLinesUptoCardSaid : Prop := Claim7.holds Tryz.pinned (.plain (OpenSpec.upto schemaLinesSpec)) schemaLinesUptoCard
end Rows
end Go.Proofs.YtciibpfhjfegnaaGreatDoor
