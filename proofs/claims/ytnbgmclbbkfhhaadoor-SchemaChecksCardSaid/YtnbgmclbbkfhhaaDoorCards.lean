/-
  DERIVED. GIVEN WITH THE SEED: THE CARDS: each row of YtnbgmclbbkfhhaaDoorRows.lean that lists a variable, with what it lists TIED to the program's text (the seventh form; the later family's looks); each row that meets fmt, with fmt's text TOLD by the authors' own Lean function (tested against real Go, not proved from fmt's source: count such statements apart). THE CARD IS WHAT COUNTS. Prove the row's statement (the work); the ties are given (YtnbgmclbbkfhhaaDoorTie.lean); close each card by the builder's one call (the guide's Derived/Test/ToyasCard.lean, 'card_holds'). Laid BY PROGRAM, IN A SANDBOX (cutbox-door.mjs). By AI agents, Wed Nov 11 2026. No macro, syntax, notation, axiom, sorry.
-/
import Derived.Test.YtnbgmclbbkfhhaaDoorRows
import GoSem.ClaimSeven
namespace Go.Proofs.YtnbgmclbbkfhhaaDoor
namespace Rows

/-- THE TIED CARD OF 'stoalaw06.SchemaChecks'. -/
def schemaChecksCard : Claim7 := { stood := { row := schemaChecksRow, standIns := [], harness := (true, "c9a2d85875e9cd34df8fc6fa374bcd5502b7369f044613bcf0dc54f288330910"), looks := false }, kinds := [], alts := [], laidByText := true, laidKinds := [.data, .pinned], laidTests := true, laidLooks := .later }
def SchemaChecksCardSaid : Prop := Claim7.holds Tryd.pinned (.plain (OpenSpec.ofChange schemaChecksSpec)) schemaChecksCard

/-- THE TIED CARD OF 'stoalaw06.SchemaApplies'. -/
def schemaAppliesCard : Claim7 := { stood := { row := schemaAppliesRow, standIns := [], harness := (true, "c9a2d85875e9cd34df8fc6fa374bcd5502b7369f044613bcf0dc54f288330910"), looks := false }, kinds := [], alts := [], laidByText := true, laidKinds := [.data, .pinned], laidTests := true, laidLooks := .later }
def SchemaAppliesCardSaid : Prop := Claim7.holds Tryd.pinned (.plain (OpenSpec.ofChange schemaAppliesSpec)) schemaAppliesCard

/-- THE TIED CARD OF 'stoalaw06.SchemaPuts'. -/
def schemaPutsCard : Claim7 := { stood := { row := schemaPutsRow, standIns := [], harness := (true, "c9a2d85875e9cd34df8fc6fa374bcd5502b7369f044613bcf0dc54f288330910"), looks := false }, kinds := [], alts := [], laidByText := true, laidKinds := [.data, .pinned], laidTests := true, laidLooks := .later }
def SchemaPutsCardSaid : Prop := Claim7.holds Tryd.pinned (.plain (OpenSpec.ofChange schemaPutsSpec)) schemaPutsCard

/-- THE TIED CARD OF 'stoalaw06.SchemaGets'. -/
def schemaGetsCard : Claim7 := { stood := { row := schemaGetsRow, standIns := [], harness := (true, "c9a2d85875e9cd34df8fc6fa374bcd5502b7369f044613bcf0dc54f288330910"), looks := false }, kinds := [], alts := [], laidByText := true, laidKinds := [.data, .pinned], laidTests := true, laidLooks := .later }
def SchemaGetsCardSaid : Prop := Claim7.holds Tryd.pinned (.plain (OpenSpec.ofChange schemaGetsSpec)) schemaGetsCard

/-- THE TIED CARD OF 'stoalaw06.SchemaBack'. -/
def schemaBackCard : Claim7 := { stood := { row := schemaBackRow, standIns := [], harness := (true, "c9a2d85875e9cd34df8fc6fa374bcd5502b7369f044613bcf0dc54f288330910"), looks := false }, kinds := [], alts := [], laidByText := true, laidKinds := [.data, .pinned], laidTests := true, laidLooks := .later }
def SchemaBackCardSaid : Prop := Claim7.holds Tryd.pinned (.plain (OpenSpec.ofChange schemaBackSpec)) schemaBackCard

/-- THE TIED CARD OF 'stoalaw06.SchemaOnly'. -/
def schemaOnlyCard : Claim7 := { stood := { row := schemaOnlyRow, standIns := [], harness := (true, "c9a2d85875e9cd34df8fc6fa374bcd5502b7369f044613bcf0dc54f288330910"), looks := false }, kinds := [], alts := [], laidByText := true, laidKinds := [.data, .pinned], laidTests := true, laidLooks := .later }
def SchemaOnlyCardSaid : Prop := Claim7.holds Tryd.pinned (.plain (OpenSpec.ofChange schemaOnlySpec)) schemaOnlyCard

/-- THE SECOND FORM's CARD OF 'stoalaw06.SchemaChecks'. -/
def schemaChecksUptoCard : Claim7 := { stood := { row := schemaChecksUptoRow, standIns := [], harness := (true, "c9a2d85875e9cd34df8fc6fa374bcd5502b7369f044613bcf0dc54f288330910"), looks := false }, kinds := [], alts := [], laidByText := true, laidKinds := [.data, .pinned], laidTests := true, laidLooks := .later }
def SchemaChecksUptoCardSaid : Prop := Claim7.holds Tryd.pinned (.plain (OpenSpec.upto schemaChecksSpec)) schemaChecksUptoCard

/-- THE SECOND FORM's CARD OF 'stoalaw06.SchemaApplies'. -/
def schemaAppliesUptoCard : Claim7 := { stood := { row := schemaAppliesUptoRow, standIns := [], harness := (true, "c9a2d85875e9cd34df8fc6fa374bcd5502b7369f044613bcf0dc54f288330910"), looks := false }, kinds := [], alts := [], laidByText := true, laidKinds := [.data, .pinned], laidTests := true, laidLooks := .later }
def SchemaAppliesUptoCardSaid : Prop := Claim7.holds Tryd.pinned (.plain (OpenSpec.upto schemaAppliesSpec)) schemaAppliesUptoCard

/-- THE SECOND FORM's CARD OF 'stoalaw06.SchemaPuts'. -/
def schemaPutsUptoCard : Claim7 := { stood := { row := schemaPutsUptoRow, standIns := [], harness := (true, "c9a2d85875e9cd34df8fc6fa374bcd5502b7369f044613bcf0dc54f288330910"), looks := false }, kinds := [], alts := [], laidByText := true, laidKinds := [.data, .pinned], laidTests := true, laidLooks := .later }
def SchemaPutsUptoCardSaid : Prop := Claim7.holds Tryd.pinned (.plain (OpenSpec.upto schemaPutsSpec)) schemaPutsUptoCard

/-- THE SECOND FORM's CARD OF 'stoalaw06.SchemaGets'. -/
def schemaGetsUptoCard : Claim7 := { stood := { row := schemaGetsUptoRow, standIns := [], harness := (true, "c9a2d85875e9cd34df8fc6fa374bcd5502b7369f044613bcf0dc54f288330910"), looks := false }, kinds := [], alts := [], laidByText := true, laidKinds := [.data, .pinned], laidTests := true, laidLooks := .later }
def SchemaGetsUptoCardSaid : Prop := Claim7.holds Tryd.pinned (.plain (OpenSpec.upto schemaGetsSpec)) schemaGetsUptoCard

/-- THE SECOND FORM's CARD OF 'stoalaw06.SchemaBack'. -/
def schemaBackUptoCard : Claim7 := { stood := { row := schemaBackUptoRow, standIns := [], harness := (true, "c9a2d85875e9cd34df8fc6fa374bcd5502b7369f044613bcf0dc54f288330910"), looks := false }, kinds := [], alts := [], laidByText := true, laidKinds := [.data, .pinned], laidTests := true, laidLooks := .later }
def SchemaBackUptoCardSaid : Prop := Claim7.holds Tryd.pinned (.plain (OpenSpec.upto schemaBackSpec)) schemaBackUptoCard

/-- THE SECOND FORM's CARD OF 'stoalaw06.SchemaOnly'. -/
def schemaOnlyUptoCard : Claim7 := { stood := { row := schemaOnlyUptoRow, standIns := [], harness := (true, "c9a2d85875e9cd34df8fc6fa374bcd5502b7369f044613bcf0dc54f288330910"), looks := false }, kinds := [], alts := [], laidByText := true, laidKinds := [.data, .pinned], laidTests := true, laidLooks := .later }
def SchemaOnlyUptoCardSaid : Prop := Claim7.holds Tryd.pinned (.plain (OpenSpec.upto schemaOnlySpec)) schemaOnlyUptoCard
end Rows
end Go.Proofs.YtnbgmclbbkfhhaaDoor
