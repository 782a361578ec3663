/-
  DERIVED. GIVEN WITH THE SEED: THE CARDS: each row of YtiaihiccaoibgaaDoorRows.lean that lists a variable, with what it lists TIED to the program's text (the seventh form; the later family's looks); each row that meets fmt, with fmt's text TOLD by the authors' own Lean function (tested against real Go, not proved from fmt's source: count such statements apart). THE CARD IS WHAT COUNTS. Prove the row's statement (the work); the ties are given (YtiaihiccaoibgaaDoorTie.lean); close each card by the builder's one call (the guide's Derived/Test/ToyasCard.lean, 'card_holds'). Laid BY PROGRAM, IN A SANDBOX (cutbox-door.mjs). By AI agents, Wed Nov 11 2026. No macro, syntax, notation, axiom, sorry.
-/
import Derived.Test.YtiaihiccaoibgaaDoorRows
import GoSem.ClaimSeven
namespace Go.Proofs.YtiaihiccaoibgaaDoor
namespace Rows

/-- THE TIED CARD OF 'stoalaw07.KeysEncodes'. -/
def keysEncodesCard : Claim7 := { stood := { row := keysEncodesRow, standIns := [], harness := (true, "3de155bb54945a01603de1a26338733e89a0f4698bc6ec6248d055b9462da074"), looks := false }, kinds := [], alts := [], laidByText := true, laidKinds := [.data, .pinned], laidTests := true, laidLooks := .later }
def KeysEncodesCardSaid : Prop := Claim7.holds Tryd.pinned (.plain (OpenSpec.ofChange keysEncodesSpec)) keysEncodesCard

/-- THE TIED CARD OF 'stoalaw07.KeysDecodes'. -/
def keysDecodesCard : Claim7 := { stood := { row := keysDecodesRow, standIns := [], harness := (true, "3de155bb54945a01603de1a26338733e89a0f4698bc6ec6248d055b9462da074"), looks := false }, kinds := [], alts := [], laidByText := true, laidKinds := [.data, .pinned], laidTests := true, laidLooks := .later }
def KeysDecodesCardSaid : Prop := Claim7.holds Tryd.pinned (.plain (OpenSpec.ofChange keysDecodesSpec)) keysDecodesCard

/-- THE TIED CARD OF 'stoalaw07.KeysBounds'. -/
def keysBoundsCard : Claim7 := { stood := { row := keysBoundsRow, standIns := [], harness := (true, "3de155bb54945a01603de1a26338733e89a0f4698bc6ec6248d055b9462da074"), looks := false }, kinds := [], alts := [], laidByText := true, laidKinds := [.data, .pinned], laidTests := true, laidLooks := .later }
def KeysBoundsCardSaid : Prop := Claim7.holds Tryd.pinned (.plain (OpenSpec.ofChange keysBoundsSpec)) keysBoundsCard

/-- THE TIED CARD OF 'stoalaw07.KeysOneToOne'. -/
def keysOneToOneCard : Claim7 := { stood := { row := keysOneToOneRow, standIns := [], harness := (true, "3de155bb54945a01603de1a26338733e89a0f4698bc6ec6248d055b9462da074"), looks := false }, kinds := [], alts := [], laidByText := true, laidKinds := [.data, .pinned], laidTests := true, laidLooks := .later }
def KeysOneToOneCardSaid : Prop := Claim7.holds Tryd.pinned (.plain (OpenSpec.ofChange keysOneToOneSpec)) keysOneToOneCard

/-- THE TIED CARD OF 'stoalaw07.KeysOrder'. -/
def keysOrderCard : Claim7 := { stood := { row := keysOrderRow, standIns := [], harness := (true, "3de155bb54945a01603de1a26338733e89a0f4698bc6ec6248d055b9462da074"), looks := false }, kinds := [], alts := [], laidByText := true, laidKinds := [.data, .pinned], laidTests := true, laidLooks := .later }
def KeysOrderCardSaid : Prop := Claim7.holds Tryd.pinned (.plain (OpenSpec.ofChange keysOrderSpec)) keysOrderCard

/-- THE TIED CARD OF 'stoalaw07.KeysRange'. -/
def keysRangeCard : Claim7 := { stood := { row := keysRangeRow, standIns := [], harness := (true, "3de155bb54945a01603de1a26338733e89a0f4698bc6ec6248d055b9462da074"), looks := false }, kinds := [], alts := [], laidByText := true, laidKinds := [.data, .pinned], laidTests := true, laidLooks := .later }
def KeysRangeCardSaid : Prop := Claim7.holds Tryd.pinned (.plain (OpenSpec.ofChange keysRangeSpec)) keysRangeCard

/-- THE TIED CARD OF 'stoalaw07.KeysFirst'. -/
def keysFirstCard : Claim7 := { stood := { row := keysFirstRow, standIns := [], harness := (true, "3de155bb54945a01603de1a26338733e89a0f4698bc6ec6248d055b9462da074"), looks := false }, kinds := [], alts := [], laidByText := true, laidKinds := [.data, .pinned], laidTests := true, laidLooks := .later }
def KeysFirstCardSaid : Prop := Claim7.holds Tryd.pinned (.plain (OpenSpec.ofChange keysFirstSpec)) keysFirstCard

/-- THE SECOND FORM's CARD OF 'stoalaw07.KeysEncodes'. -/
def keysEncodesUptoCard : Claim7 := { stood := { row := keysEncodesUptoRow, standIns := [], harness := (true, "3de155bb54945a01603de1a26338733e89a0f4698bc6ec6248d055b9462da074"), looks := false }, kinds := [], alts := [], laidByText := true, laidKinds := [.data, .pinned], laidTests := true, laidLooks := .later }
def KeysEncodesUptoCardSaid : Prop := Claim7.holds Tryd.pinned (.plain (OpenSpec.upto keysEncodesSpec)) keysEncodesUptoCard

/-- THE SECOND FORM's CARD OF 'stoalaw07.KeysDecodes'. -/
def keysDecodesUptoCard : Claim7 := { stood := { row := keysDecodesUptoRow, standIns := [], harness := (true, "3de155bb54945a01603de1a26338733e89a0f4698bc6ec6248d055b9462da074"), looks := false }, kinds := [], alts := [], laidByText := true, laidKinds := [.data, .pinned], laidTests := true, laidLooks := .later }
def KeysDecodesUptoCardSaid : Prop := Claim7.holds Tryd.pinned (.plain (OpenSpec.upto keysDecodesSpec)) keysDecodesUptoCard

/-- THE SECOND FORM's CARD OF 'stoalaw07.KeysBounds'. -/
def keysBoundsUptoCard : Claim7 := { stood := { row := keysBoundsUptoRow, standIns := [], harness := (true, "3de155bb54945a01603de1a26338733e89a0f4698bc6ec6248d055b9462da074"), looks := false }, kinds := [], alts := [], laidByText := true, laidKinds := [.data, .pinned], laidTests := true, laidLooks := .later }
def KeysBoundsUptoCardSaid : Prop := Claim7.holds Tryd.pinned (.plain (OpenSpec.upto keysBoundsSpec)) keysBoundsUptoCard

/-- THE SECOND FORM's CARD OF 'stoalaw07.KeysOneToOne'. -/
def keysOneToOneUptoCard : Claim7 := { stood := { row := keysOneToOneUptoRow, standIns := [], harness := (true, "3de155bb54945a01603de1a26338733e89a0f4698bc6ec6248d055b9462da074"), looks := false }, kinds := [], alts := [], laidByText := true, laidKinds := [.data, .pinned], laidTests := true, laidLooks := .later }
def KeysOneToOneUptoCardSaid : Prop := Claim7.holds Tryd.pinned (.plain (OpenSpec.upto keysOneToOneSpec)) keysOneToOneUptoCard

/-- THE SECOND FORM's CARD OF 'stoalaw07.KeysOrder'. -/
def keysOrderUptoCard : Claim7 := { stood := { row := keysOrderUptoRow, standIns := [], harness := (true, "3de155bb54945a01603de1a26338733e89a0f4698bc6ec6248d055b9462da074"), looks := false }, kinds := [], alts := [], laidByText := true, laidKinds := [.data, .pinned], laidTests := true, laidLooks := .later }
def KeysOrderUptoCardSaid : Prop := Claim7.holds Tryd.pinned (.plain (OpenSpec.upto keysOrderSpec)) keysOrderUptoCard

/-- THE SECOND FORM's CARD OF 'stoalaw07.KeysRange'. -/
def keysRangeUptoCard : Claim7 := { stood := { row := keysRangeUptoRow, standIns := [], harness := (true, "3de155bb54945a01603de1a26338733e89a0f4698bc6ec6248d055b9462da074"), looks := false }, kinds := [], alts := [], laidByText := true, laidKinds := [.data, .pinned], laidTests := true, laidLooks := .later }
def KeysRangeUptoCardSaid : Prop := Claim7.holds Tryd.pinned (.plain (OpenSpec.upto keysRangeSpec)) keysRangeUptoCard

/-- THE SECOND FORM's CARD OF 'stoalaw07.KeysFirst'. -/
def keysFirstUptoCard : Claim7 := { stood := { row := keysFirstUptoRow, standIns := [], harness := (true, "3de155bb54945a01603de1a26338733e89a0f4698bc6ec6248d055b9462da074"), looks := false }, kinds := [], alts := [], laidByText := true, laidKinds := [.data, .pinned], laidTests := true, laidLooks := .later }
def KeysFirstUptoCardSaid : Prop := Claim7.holds Tryd.pinned (.plain (OpenSpec.upto keysFirstSpec)) keysFirstUptoCard
end Rows
end Go.Proofs.YtiaihiccaoibgaaDoor
