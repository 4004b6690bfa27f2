/-
  DERIVED. GIVEN WITH THE SEED: THE CARDS: each row of YtagjdeekiiffjaaGreatDoorRows.lean that lists a variable, with what it lists TIED to the program's text (the seventh form; the later family's looks); each row that meets fmt, with fmt's text TOLD by the authors' own Lean function (tested against real Go, not proved from fmt's source: count such statements apart). THE CARD IS WHAT COUNTS. Prove the row's statement (the work); the ties are given (YtagjdeekiiffjaaGreatDoorTie.lean); close each card by the builder's one call (the guide's Derived/Test/ToyasCard.lean, 'card_holds'). Laid BY PROGRAM, IN A SANDBOX (cutbox-door.mjs). By AI agents, Wed Nov 11 2026. No macro, syntax, notation, axiom, sorry.
-/
import Derived.Test.YtagjdeekiiffjaaGreatDoorRows
import GoSem.ClaimSeven
namespace Go.Proofs.YtagjdeekiiffjaaGreatDoor
namespace Rows

/-- THE TIED CARD OF 'fieldfarelaw11.FieldsBack'. -/
def fieldsBackCard : Claim7 := { stood := { row := fieldsBackRow, standIns := [], harness := (true, "25388a6a198300f5735affddb4605212dea8cffdf59e70b6825b77eb190342e5"), looks := true }, kinds := [], alts := [], laidByText := true, laidKinds := [.handle], laidTests := true, laidLooks := .later }
def FieldsBackCardSaid : Prop := Claim7.holds Tryz.pinned (.plain (OpenSpec.ofChange fieldsBackSpec)) fieldsBackCard

/-- THE TIED CARD OF 'fieldfarelaw11.FieldsMost'. -/
def fieldsMostCard : Claim7 := { stood := { row := fieldsMostRow, standIns := [], harness := (true, "25388a6a198300f5735affddb4605212dea8cffdf59e70b6825b77eb190342e5"), looks := true }, kinds := [], alts := [], laidByText := true, laidKinds := [.handle], laidTests := true, laidLooks := .later }
def FieldsMostCardSaid : Prop := Claim7.holds Tryz.pinned (.plain (OpenSpec.ofChange fieldsMostSpec)) fieldsMostCard

/-- THE TIED CARD OF 'fieldfarelaw18.RecordsLong'. -/
def recordsLongCard : Claim7 := { stood := { row := recordsLongRow, standIns := [], harness := (true, "25388a6a198300f5735affddb4605212dea8cffdf59e70b6825b77eb190342e5"), looks := true }, kinds := [], alts := [], laidByText := true, laidKinds := [.data, .handle, .pinned], laidTests := true, laidLooks := .later }
def RecordsLongCardSaid : Prop := Claim7.holds Tryz.pinned (.plain (OpenSpec.ofChange recordsLongSpec)) recordsLongCard

/-- THE TIED CARD OF 'fieldfarelaw18.RecordsJoin'. -/
def recordsJoinCard : Claim7 := { stood := { row := recordsJoinRow, standIns := [], harness := (true, "25388a6a198300f5735affddb4605212dea8cffdf59e70b6825b77eb190342e5"), looks := true }, kinds := [], alts := [], laidByText := true, laidKinds := [.data, .handle, .pinned], laidTests := true, laidLooks := .later }
def RecordsJoinCardSaid : Prop := Claim7.holds Tryz.pinned (.plain (OpenSpec.ofChange recordsJoinSpec)) recordsJoinCard

/-- THE TIED CARD OF 'fieldfarelaw18.RecordsLines'. -/
def recordsLinesCard : Claim7 := { stood := { row := recordsLinesRow, standIns := [], harness := (true, "25388a6a198300f5735affddb4605212dea8cffdf59e70b6825b77eb190342e5"), looks := true }, kinds := [], alts := [], laidByText := true, laidKinds := [.data, .handle, .pinned], laidTests := true, laidLooks := .later }
def RecordsLinesCardSaid : Prop := Claim7.holds Tryz.pinned (.plain (OpenSpec.ofChange recordsLinesSpec)) recordsLinesCard

/-- THE TIED CARD OF 'fieldfarelaw21.ConnIdles'. -/
def connIdlesCard : Claim7 := { stood := { row := connIdlesRow, standIns := [], harness := (true, "25388a6a198300f5735affddb4605212dea8cffdf59e70b6825b77eb190342e5"), looks := true }, kinds := [], alts := [], laidByText := true, laidKinds := [.data, .handle, .pinned], laidTests := true, laidLooks := .later }
def ConnIdlesCardSaid : Prop := Claim7.holds Tryz.pinned (.plain (OpenSpec.ofChange connIdlesSpec)) connIdlesCard

/-- THE TIED CARD OF 'fieldfarelaw21.ConnSays'. -/
def connSaysCard : Claim7 := { stood := { row := connSaysRow, standIns := [], harness := (true, "25388a6a198300f5735affddb4605212dea8cffdf59e70b6825b77eb190342e5"), looks := true }, kinds := [], alts := [], laidByText := true, laidKinds := [.data, .handle, .pinned], laidTests := true, laidLooks := .later }
def ConnSaysCardSaid : Prop := Claim7.holds Tryz.pinned (.plain (OpenSpec.ofChange connSaysSpec)) connSaysCard

/-- THE SECOND FORM's CARD OF 'fieldfarelaw11.FieldsBack'. -/
def fieldsBackUptoCard : Claim7 := { stood := { row := fieldsBackUptoRow, standIns := [], harness := (true, "25388a6a198300f5735affddb4605212dea8cffdf59e70b6825b77eb190342e5"), looks := true }, kinds := [], alts := [], laidByText := true, laidKinds := [.handle], laidTests := true, laidLooks := .later }
def FieldsBackUptoCardSaid : Prop := Claim7.holds Tryz.pinned (.plain (OpenSpec.upto fieldsBackSpec)) fieldsBackUptoCard

/-- THE SECOND FORM's CARD OF 'fieldfarelaw11.FieldsMost'. -/
def fieldsMostUptoCard : Claim7 := { stood := { row := fieldsMostUptoRow, standIns := [], harness := (true, "25388a6a198300f5735affddb4605212dea8cffdf59e70b6825b77eb190342e5"), looks := true }, kinds := [], alts := [], laidByText := true, laidKinds := [.handle], laidTests := true, laidLooks := .later }
def FieldsMostUptoCardSaid : Prop := Claim7.holds Tryz.pinned (.plain (OpenSpec.upto fieldsMostSpec)) fieldsMostUptoCard

/-- THE SECOND FORM's CARD OF 'fieldfarelaw18.RecordsLong'. -/
def recordsLongUptoCard : Claim7 := { stood := { row := recordsLongUptoRow, standIns := [], harness := (true, "25388a6a198300f5735affddb4605212dea8cffdf59e70b6825b77eb190342e5"), looks := true }, kinds := [], alts := [], laidByText := true, laidKinds := [.data, .handle, .pinned], laidTests := true, laidLooks := .later }
def RecordsLongUptoCardSaid : Prop := Claim7.holds Tryz.pinned (.plain (OpenSpec.upto recordsLongSpec)) recordsLongUptoCard

/-- THE SECOND FORM's CARD OF 'fieldfarelaw18.RecordsJoin'. -/
def recordsJoinUptoCard : Claim7 := { stood := { row := recordsJoinUptoRow, standIns := [], harness := (true, "25388a6a198300f5735affddb4605212dea8cffdf59e70b6825b77eb190342e5"), looks := true }, kinds := [], alts := [], laidByText := true, laidKinds := [.data, .handle, .pinned], laidTests := true, laidLooks := .later }
def RecordsJoinUptoCardSaid : Prop := Claim7.holds Tryz.pinned (.plain (OpenSpec.upto recordsJoinSpec)) recordsJoinUptoCard

/-- THE SECOND FORM's CARD OF 'fieldfarelaw18.RecordsLines'. -/
def recordsLinesUptoCard : Claim7 := { stood := { row := recordsLinesUptoRow, standIns := [], harness := (true, "25388a6a198300f5735affddb4605212dea8cffdf59e70b6825b77eb190342e5"), looks := true }, kinds := [], alts := [], laidByText := true, laidKinds := [.data, .handle, .pinned], laidTests := true, laidLooks := .later }
def RecordsLinesUptoCardSaid : Prop := Claim7.holds Tryz.pinned (.plain (OpenSpec.upto recordsLinesSpec)) recordsLinesUptoCard

/-- THE SECOND FORM's CARD OF 'fieldfarelaw21.ConnIdles'. -/
def connIdlesUptoCard : Claim7 := { stood := { row := connIdlesUptoRow, standIns := [], harness := (true, "25388a6a198300f5735affddb4605212dea8cffdf59e70b6825b77eb190342e5"), looks := true }, kinds := [], alts := [], laidByText := true, laidKinds := [.data, .handle, .pinned], laidTests := true, laidLooks := .later }
def ConnIdlesUptoCardSaid : Prop := Claim7.holds Tryz.pinned (.plain (OpenSpec.upto connIdlesSpec)) connIdlesUptoCard

/-- THE SECOND FORM's CARD OF 'fieldfarelaw21.ConnSays'. -/
def connSaysUptoCard : Claim7 := { stood := { row := connSaysUptoRow, standIns := [], harness := (true, "25388a6a198300f5735affddb4605212dea8cffdf59e70b6825b77eb190342e5"), looks := true }, kinds := [], alts := [], laidByText := true, laidKinds := [.data, .handle, .pinned], laidTests := true, laidLooks := .later }
def ConnSaysUptoCardSaid : Prop := Claim7.holds Tryz.pinned (.plain (OpenSpec.upto connSaysSpec)) connSaysUptoCard
end Rows
end Go.Proofs.YtagjdeekiiffjaaGreatDoor
