/-
  DERIVED. GIVEN WITH THE SEED: THE CARDS: each row of YtoiebfpafdcbmaaDoorRows.lean that lists a variable, with what it lists TIED to the program's text (the seventh form; the later family's looks); each row that meets fmt, with fmt's text TOLD by the authors' own Lean function (tested against real Go, not proved from fmt's source: count such statements apart). THE CARD IS WHAT COUNTS. Prove the row's statement (the work); the ties are given (YtoiebfpafdcbmaaDoorTie.lean); close each card by the builder's one call (the guide's Derived/Test/ToyasCard.lean, 'card_holds'). Laid BY PROGRAM, IN A SANDBOX (cutbox-door.mjs). By AI agents, Wed Nov 11 2026. No macro, syntax, notation, axiom, sorry.
-/
import Derived.Test.YtoiebfpafdcbmaaDoorRows
import GoSem.ClaimSeven
namespace Go.Proofs.YtoiebfpafdcbmaaDoor
namespace Rows

/-- THE TIED CARD OF 'shinglelaw06.BinsBack'. -/
def binsBackCard : Claim7 := { stood := { row := binsBackRow, standIns := [], harness := (true, "74ef2437dd504ea4baf033f09f67a2911ede29fc9ccc390f334e48ac8bbc5685"), looks := true }, kinds := [], alts := [], laidByText := true, laidKinds := [.data, .pinned], laidTests := true, laidLooks := .later }
def BinsBackCardSaid : Prop := Claim7.holds Tryd.pinned (.plain (OpenSpec.ofChange binsBackSpec)) binsBackCard

/-- THE TIED CARD OF 'shinglelaw38.TextPlanes'. -/
def textPlanesCard : Claim7 := { stood := { row := textPlanesRow, standIns := [], harness := (true, "74ef2437dd504ea4baf033f09f67a2911ede29fc9ccc390f334e48ac8bbc5685"), looks := true }, kinds := [], alts := [], laidByText := true, laidKinds := [.data, .data, .data, .data, .sentinel, .sentinel, .pinned], laidTests := true, laidLooks := .later }
def TextPlanesCardSaid : Prop := Claim7.holds Tryd.pinned (.plain (OpenSpec.ofChange textPlanesSpec)) textPlanesCard

/-- THE TIED CARD OF 'shinglelaw38.TextParses'. -/
def textParsesCard : Claim7 := { stood := { row := textParsesRow, standIns := [], harness := (true, "74ef2437dd504ea4baf033f09f67a2911ede29fc9ccc390f334e48ac8bbc5685"), looks := true }, kinds := [], alts := [], laidByText := true, laidKinds := [.data, .data, .data, .data, .sentinel, .sentinel, .pinned], laidTests := true, laidLooks := .later }
def TextParsesCardSaid : Prop := Claim7.holds Tryd.pinned (.plain (OpenSpec.ofChange textParsesSpec)) textParsesCard

/-- THE TIED CARD OF 'shinglelaw38.TextBack'. -/
def textBackCard : Claim7 := { stood := { row := textBackRow, standIns := [], harness := (true, "74ef2437dd504ea4baf033f09f67a2911ede29fc9ccc390f334e48ac8bbc5685"), looks := true }, kinds := [], alts := [], laidByText := true, laidKinds := [.data, .data, .data, .data, .sentinel, .sentinel, .pinned], laidTests := true, laidLooks := .later }
def TextBackCardSaid : Prop := Claim7.holds Tryd.pinned (.plain (OpenSpec.ofChange textBackSpec)) textBackCard

/-- THE TIED CARD OF 'shinglelaw38.TextLines'. -/
def textLinesCard : Claim7 := { stood := { row := textLinesRow, standIns := [], harness := (true, "74ef2437dd504ea4baf033f09f67a2911ede29fc9ccc390f334e48ac8bbc5685"), looks := true }, kinds := [], alts := [], laidByText := true, laidKinds := [.data, .data, .data, .data, .sentinel, .sentinel, .pinned], laidTests := true, laidLooks := .later }
def TextLinesCardSaid : Prop := Claim7.holds Tryd.pinned (.plain (OpenSpec.ofChange textLinesSpec)) textLinesCard

/-- THE SECOND FORM's CARD OF 'shinglelaw06.BinsBack'. -/
def binsBackUptoCard : Claim7 := { stood := { row := binsBackUptoRow, standIns := [], harness := (true, "74ef2437dd504ea4baf033f09f67a2911ede29fc9ccc390f334e48ac8bbc5685"), looks := true }, kinds := [], alts := [], laidByText := true, laidKinds := [.data, .pinned], laidTests := true, laidLooks := .later }
def BinsBackUptoCardSaid : Prop := Claim7.holds Tryd.pinned (.plain (OpenSpec.upto binsBackSpec)) binsBackUptoCard

/-- THE SECOND FORM's CARD OF 'shinglelaw38.TextPlanes'. -/
def textPlanesUptoCard : Claim7 := { stood := { row := textPlanesUptoRow, standIns := [], harness := (true, "74ef2437dd504ea4baf033f09f67a2911ede29fc9ccc390f334e48ac8bbc5685"), looks := true }, kinds := [], alts := [], laidByText := true, laidKinds := [.data, .data, .data, .data, .sentinel, .sentinel, .pinned], laidTests := true, laidLooks := .later }
def TextPlanesUptoCardSaid : Prop := Claim7.holds Tryd.pinned (.plain (OpenSpec.upto textPlanesSpec)) textPlanesUptoCard

/-- THE SECOND FORM's CARD OF 'shinglelaw38.TextParses'. -/
def textParsesUptoCard : Claim7 := { stood := { row := textParsesUptoRow, standIns := [], harness := (true, "74ef2437dd504ea4baf033f09f67a2911ede29fc9ccc390f334e48ac8bbc5685"), looks := true }, kinds := [], alts := [], laidByText := true, laidKinds := [.data, .data, .data, .data, .sentinel, .sentinel, .pinned], laidTests := true, laidLooks := .later }
def TextParsesUptoCardSaid : Prop := Claim7.holds Tryd.pinned (.plain (OpenSpec.upto textParsesSpec)) textParsesUptoCard

/-- THE SECOND FORM's CARD OF 'shinglelaw38.TextBack'. -/
def textBackUptoCard : Claim7 := { stood := { row := textBackUptoRow, standIns := [], harness := (true, "74ef2437dd504ea4baf033f09f67a2911ede29fc9ccc390f334e48ac8bbc5685"), looks := true }, kinds := [], alts := [], laidByText := true, laidKinds := [.data, .data, .data, .data, .sentinel, .sentinel, .pinned], laidTests := true, laidLooks := .later }
def TextBackUptoCardSaid : Prop := Claim7.holds Tryd.pinned (.plain (OpenSpec.upto textBackSpec)) textBackUptoCard

/-- THE SECOND FORM's CARD OF 'shinglelaw38.TextLines'. -/
def textLinesUptoCard : Claim7 := { stood := { row := textLinesUptoRow, standIns := [], harness := (true, "74ef2437dd504ea4baf033f09f67a2911ede29fc9ccc390f334e48ac8bbc5685"), looks := true }, kinds := [], alts := [], laidByText := true, laidKinds := [.data, .data, .data, .data, .sentinel, .sentinel, .pinned], laidTests := true, laidLooks := .later }
def TextLinesUptoCardSaid : Prop := Claim7.holds Tryd.pinned (.plain (OpenSpec.upto textLinesSpec)) textLinesUptoCard
end Rows
end Go.Proofs.YtoiebfpafdcbmaaDoor
