/-
  DERIVED. GIVEN WITH THE SEED: THE CARDS: each row of YtdlnenkemolnlaaGreatDoorRows.lean that lists a variable, with what it lists TIED to the program's text (the seventh form; the later family's looks); each row that meets fmt, with fmt's text TOLD by the authors' own Lean function (tested against real Go, not proved from fmt's source: count such statements apart). THE CARD IS WHAT COUNTS. Prove the row's statement (the work); the ties are given (YtdlnenkemolnlaaGreatDoorTie.lean); close each card by the builder's one call (the guide's Derived/Test/ToyasCard.lean, 'card_holds'). Laid BY PROGRAM, IN A SANDBOX (cutbox-door.mjs). By AI agents, Wed Nov 11 2026. No macro, syntax, notation, axiom, sorry.
-/
import Derived.Test.YtdlnenkemolnlaaGreatDoorRows
import GoSem.ClaimSeven
namespace Go.Proofs.YtdlnenkemolnlaaGreatDoor
namespace Rows

/-- THE TIED CARD OF 'diptychlaw15.CompWrites'. -/
def compWritesCard : Claim7 := { stood := { row := compWritesRow, standIns := [], harness := (true, "afcd7316f4a897ed269db73f3a560a24594d90ea4f5169b37bdda24abc6d21df"), looks := false }, kinds := [], alts := [], laidByText := true, laidKinds := [.data, .pinned], laidTests := true, laidLooks := .later }
def CompWritesCardSaid : Prop := Claim7.holds Tryz.pinned (.plain (OpenSpec.ofChange compWritesSpec)) compWritesCard

/-- THE TIED CARD OF 'diptychlaw8.SchemaReads'. -/
def schemaReadsCard : Claim7 := { stood := { row := schemaReadsRow, standIns := [], harness := (true, "afcd7316f4a897ed269db73f3a560a24594d90ea4f5169b37bdda24abc6d21df"), looks := false }, kinds := [], alts := [], laidByText := true, laidKinds := [.data, .pinned], laidTests := true, laidLooks := .later }
def SchemaReadsCardSaid : Prop := Claim7.holds Tryz.pinned (.plain (OpenSpec.ofChange schemaReadsSpec)) schemaReadsCard

/-- THE TIED CARD OF 'diptychlaw8.SchemaParses'. -/
def schemaParsesCard : Claim7 := { stood := { row := schemaParsesRow, standIns := [], harness := (true, "afcd7316f4a897ed269db73f3a560a24594d90ea4f5169b37bdda24abc6d21df"), looks := false }, kinds := [], alts := [], laidByText := true, laidKinds := [.data, .pinned], laidTests := true, laidLooks := .later }
def SchemaParsesCardSaid : Prop := Claim7.holds Tryz.pinned (.plain (OpenSpec.ofChange schemaParsesSpec)) schemaParsesCard

/-- THE TIED CARD OF 'diptychlaw8.SchemaTakes'. -/
def schemaTakesCard : Claim7 := { stood := { row := schemaTakesRow, standIns := [], harness := (true, "afcd7316f4a897ed269db73f3a560a24594d90ea4f5169b37bdda24abc6d21df"), looks := false }, kinds := [], alts := [], laidByText := true, laidKinds := [.data, .pinned], laidTests := true, laidLooks := .later }
def SchemaTakesCardSaid : Prop := Claim7.holds Tryz.pinned (.plain (OpenSpec.ofChange schemaTakesSpec)) schemaTakesCard

/-- THE SECOND FORM's CARD OF 'diptychlaw15.CompWrites'. -/
def compWritesUptoCard : Claim7 := { stood := { row := compWritesUptoRow, standIns := [], harness := (true, "afcd7316f4a897ed269db73f3a560a24594d90ea4f5169b37bdda24abc6d21df"), looks := false }, kinds := [], alts := [], laidByText := true, laidKinds := [.data, .pinned], laidTests := true, laidLooks := .later }
def CompWritesUptoCardSaid : Prop := Claim7.holds Tryz.pinned (.plain (OpenSpec.upto compWritesSpec)) compWritesUptoCard

/-- THE SECOND FORM's CARD OF 'diptychlaw8.SchemaReads'. -/
def schemaReadsUptoCard : Claim7 := { stood := { row := schemaReadsUptoRow, standIns := [], harness := (true, "afcd7316f4a897ed269db73f3a560a24594d90ea4f5169b37bdda24abc6d21df"), looks := false }, kinds := [], alts := [], laidByText := true, laidKinds := [.data, .pinned], laidTests := true, laidLooks := .later }
def SchemaReadsUptoCardSaid : Prop := Claim7.holds Tryz.pinned (.plain (OpenSpec.upto schemaReadsSpec)) schemaReadsUptoCard

/-- THE SECOND FORM's CARD OF 'diptychlaw8.SchemaParses'. -/
def schemaParsesUptoCard : Claim7 := { stood := { row := schemaParsesUptoRow, standIns := [], harness := (true, "afcd7316f4a897ed269db73f3a560a24594d90ea4f5169b37bdda24abc6d21df"), looks := false }, kinds := [], alts := [], laidByText := true, laidKinds := [.data, .pinned], laidTests := true, laidLooks := .later }
def SchemaParsesUptoCardSaid : Prop := Claim7.holds Tryz.pinned (.plain (OpenSpec.upto schemaParsesSpec)) schemaParsesUptoCard

/-- THE SECOND FORM's CARD OF 'diptychlaw8.SchemaTakes'. -/
def schemaTakesUptoCard : Claim7 := { stood := { row := schemaTakesUptoRow, standIns := [], harness := (true, "afcd7316f4a897ed269db73f3a560a24594d90ea4f5169b37bdda24abc6d21df"), looks := false }, kinds := [], alts := [], laidByText := true, laidKinds := [.data, .pinned], laidTests := true, laidLooks := .later }
def SchemaTakesUptoCardSaid : Prop := Claim7.holds Tryz.pinned (.plain (OpenSpec.upto schemaTakesSpec)) schemaTakesUptoCard
end Rows
end Go.Proofs.YtdlnenkemolnlaaGreatDoor
