/-
  DERIVED. GIVEN WITH THE SEED: THE CARDS: each row of YtahiodegnilodaaGreatDoorRows.lean that lists a variable, with what it lists TIED to the program's text (the seventh form; the later family's looks); each row that meets fmt, with fmt's text TOLD by the authors' own Lean function (tested against real Go, not proved from fmt's source: count such statements apart). THE CARD IS WHAT COUNTS. Prove the row's statement (the work); the ties are given (YtahiodegnilodaaGreatDoorTie.lean); close each card by the builder's one call (the guide's Derived/Test/ToyasCard.lean, 'card_holds'). Laid BY PROGRAM, IN A SANDBOX (cutbox-door.mjs). By AI agents, Wed Nov 11 2026. No macro, syntax, notation, axiom, sorry.
-/
import Derived.Test.YtahiodegnilodaaGreatDoorRows
import GoSem.ClaimSeven
namespace Go.Proofs.YtahiodegnilodaaGreatDoor
namespace Rows

/-- THE TIED CARD OF 'pleachlaw12.SchemaReads'. -/
def schemaReadsCard : Claim7 := { stood := { row := schemaReadsRow, standIns := [], harness := (true, "08def71e38faffab3c6e11fd520345b8c7030ffe5e6ebbbce5710ba68b8da0ee"), looks := false }, kinds := [], alts := [], laidByText := true, laidKinds := [.data, .pinned], laidTests := true, laidLooks := .later }
def SchemaReadsCardSaid : Prop := Claim7.holds Tryz.pinned (.plain (OpenSpec.ofChange schemaReadsSpec)) schemaReadsCard

/-- THE TIED CARD OF 'pleachlaw12.SchemaFits'. -/
def schemaFitsCard : Claim7 := { stood := { row := schemaFitsRow, standIns := [], harness := (true, "08def71e38faffab3c6e11fd520345b8c7030ffe5e6ebbbce5710ba68b8da0ee"), looks := false }, kinds := [], alts := [], laidByText := true, laidKinds := [.data, .pinned], laidTests := true, laidLooks := .later }
def SchemaFitsCardSaid : Prop := Claim7.holds Tryz.pinned (.plain (OpenSpec.ofChange schemaFitsSpec)) schemaFitsCard

/-- THE TIED CARD OF 'pleachlaw12.SchemaWrites'. -/
def schemaWritesCard : Claim7 := { stood := { row := schemaWritesRow, standIns := [], harness := (true, "08def71e38faffab3c6e11fd520345b8c7030ffe5e6ebbbce5710ba68b8da0ee"), looks := false }, kinds := [], alts := [], laidByText := true, laidKinds := [.data, .pinned], laidTests := true, laidLooks := .later }
def SchemaWritesCardSaid : Prop := Claim7.holds Tryz.pinned (.plain (OpenSpec.ofChange schemaWritesSpec)) schemaWritesCard

/-- THE TIED CARD OF 'pleachlaw12.SchemaChanges'. -/
def schemaChangesCard : Claim7 := { stood := { row := schemaChangesRow, standIns := [], harness := (true, "08def71e38faffab3c6e11fd520345b8c7030ffe5e6ebbbce5710ba68b8da0ee"), looks := false }, kinds := [], alts := [], laidByText := true, laidKinds := [.data, .pinned], laidTests := true, laidLooks := .later }
def SchemaChangesCardSaid : Prop := Claim7.holds Tryz.pinned (.plain (OpenSpec.ofChange schemaChangesSpec)) schemaChangesCard

/-- THE TIED CARD OF 'pleachlaw12.SchemaBack'. -/
def schemaBackCard : Claim7 := { stood := { row := schemaBackRow, standIns := [], harness := (true, "08def71e38faffab3c6e11fd520345b8c7030ffe5e6ebbbce5710ba68b8da0ee"), looks := false }, kinds := [], alts := [], laidByText := true, laidKinds := [.data, .pinned], laidTests := true, laidLooks := .later }
def SchemaBackCardSaid : Prop := Claim7.holds Tryz.pinned (.plain (OpenSpec.ofChange schemaBackSpec)) schemaBackCard

/-- THE SECOND FORM's CARD OF 'pleachlaw12.SchemaReads'. -/
def schemaReadsUptoCard : Claim7 := { stood := { row := schemaReadsUptoRow, standIns := [], harness := (true, "08def71e38faffab3c6e11fd520345b8c7030ffe5e6ebbbce5710ba68b8da0ee"), looks := false }, kinds := [], alts := [], laidByText := true, laidKinds := [.data, .pinned], laidTests := true, laidLooks := .later }
def SchemaReadsUptoCardSaid : Prop := Claim7.holds Tryz.pinned (.plain (OpenSpec.upto schemaReadsSpec)) schemaReadsUptoCard

/-- THE SECOND FORM's CARD OF 'pleachlaw12.SchemaFits'. -/
def schemaFitsUptoCard : Claim7 := { stood := { row := schemaFitsUptoRow, standIns := [], harness := (true, "08def71e38faffab3c6e11fd520345b8c7030ffe5e6ebbbce5710ba68b8da0ee"), looks := false }, kinds := [], alts := [], laidByText := true, laidKinds := [.data, .pinned], laidTests := true, laidLooks := .later }
def SchemaFitsUptoCardSaid : Prop := Claim7.holds Tryz.pinned (.plain (OpenSpec.upto schemaFitsSpec)) schemaFitsUptoCard

/-- THE SECOND FORM's CARD OF 'pleachlaw12.SchemaWrites'. -/
def schemaWritesUptoCard : Claim7 := { stood := { row := schemaWritesUptoRow, standIns := [], harness := (true, "08def71e38faffab3c6e11fd520345b8c7030ffe5e6ebbbce5710ba68b8da0ee"), looks := false }, kinds := [], alts := [], laidByText := true, laidKinds := [.data, .pinned], laidTests := true, laidLooks := .later }
def SchemaWritesUptoCardSaid : Prop := Claim7.holds Tryz.pinned (.plain (OpenSpec.upto schemaWritesSpec)) schemaWritesUptoCard

/-- THE SECOND FORM's CARD OF 'pleachlaw12.SchemaChanges'. -/
def schemaChangesUptoCard : Claim7 := { stood := { row := schemaChangesUptoRow, standIns := [], harness := (true, "08def71e38faffab3c6e11fd520345b8c7030ffe5e6ebbbce5710ba68b8da0ee"), looks := false }, kinds := [], alts := [], laidByText := true, laidKinds := [.data, .pinned], laidTests := true, laidLooks := .later }
def SchemaChangesUptoCardSaid : Prop := Claim7.holds Tryz.pinned (.plain (OpenSpec.upto schemaChangesSpec)) schemaChangesUptoCard

/-- THE SECOND FORM's CARD OF 'pleachlaw12.SchemaBack'. -/
def schemaBackUptoCard : Claim7 := { stood := { row := schemaBackUptoRow, standIns := [], harness := (true, "08def71e38faffab3c6e11fd520345b8c7030ffe5e6ebbbce5710ba68b8da0ee"), looks := false }, kinds := [], alts := [], laidByText := true, laidKinds := [.data, .pinned], laidTests := true, laidLooks := .later }
def SchemaBackUptoCardSaid : Prop := Claim7.holds Tryz.pinned (.plain (OpenSpec.upto schemaBackSpec)) schemaBackUptoCard
end Rows
end Go.Proofs.YtahiodegnilodaaGreatDoor
