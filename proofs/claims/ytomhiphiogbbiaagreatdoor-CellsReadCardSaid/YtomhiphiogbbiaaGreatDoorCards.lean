/-
  DERIVED. GIVEN WITH THE SEED: THE CARDS: each row of YtomhiphiogbbiaaGreatDoorRows.lean that lists a variable, with what it lists TIED to the program's text (the seventh form; the later family's looks); each row that meets fmt, with fmt's text TOLD by the authors' own Lean function (tested against real Go, not proved from fmt's source: count such statements apart). THE CARD IS WHAT COUNTS. Prove the row's statement (the work); the ties are given (YtomhiphiogbbiaaGreatDoorTie.lean); close each card by the builder's one call (the guide's Derived/Test/ToyasCard.lean, 'card_holds'). Laid BY PROGRAM, IN A SANDBOX (cutbox-door.mjs). By AI agents, Wed Nov 11 2026. No macro, syntax, notation, axiom, sorry.
-/
import Derived.Test.YtomhiphiogbbiaaGreatDoorRows
import GoSem.ClaimSeven
namespace Go.Proofs.YtomhiphiogbbiaaGreatDoor
namespace Rows

/-- THE TIED CARD OF 'backstitchlaw1.CellsRead'. -/
def cellsReadCard : Claim7 := { stood := { row := cellsReadRow, standIns := [], harness := (true, "2ccd2790d471c8c4a93d990433847ee83391019ee0399ea0a3e4b6ff7bbf9e5f"), looks := false }, kinds := [], alts := [], laidByText := true, laidKinds := [.data, .data, .data, .listed, .data], laidTests := true, laidLooks := .later }
def CellsReadCardSaid : Prop := Claim7.holds Tryz.pinned (.plain (OpenSpec.ofChange cellsReadSpec)) cellsReadCard

/-- THE TIED CARD OF 'backstitchlaw1.CellsCall'. -/
def cellsCallCard : Claim7 := { stood := { row := cellsCallRow, standIns := [], harness := (true, "2ccd2790d471c8c4a93d990433847ee83391019ee0399ea0a3e4b6ff7bbf9e5f"), looks := false }, kinds := [], alts := [], laidByText := true, laidKinds := [.data, .data, .data, .listed, .data], laidTests := true, laidLooks := .later }
def CellsCallCardSaid : Prop := Claim7.holds Tryz.pinned (.plain (OpenSpec.ofChange cellsCallSpec)) cellsCallCard

/-- THE TIED CARD OF 'backstitchkeep1.CellsPut'. -/
def cellsPutCard : Claim7 := { stood := { row := cellsPutRow, standIns := [], harness := (true, "2ccd2790d471c8c4a93d990433847ee83391019ee0399ea0a3e4b6ff7bbf9e5f"), looks := false }, kinds := [], alts := [], laidByText := true, laidKinds := [.data, .data, .data, .listed, .data], laidTests := true, laidLooks := .later }
def CellsPutCardSaid : Prop := Claim7.holds Tryz.pinned (.plain (OpenSpec.ofChange cellsPutSpec)) cellsPutCard

/-- THE TIED CARD OF 'backstitchkeep1.CellsStack'. -/
def cellsStackCard : Claim7 := { stood := { row := cellsStackRow, standIns := [], harness := (true, "2ccd2790d471c8c4a93d990433847ee83391019ee0399ea0a3e4b6ff7bbf9e5f"), looks := false }, kinds := [], alts := [], laidByText := true, laidKinds := [.data, .data, .data, .listed, .data], laidTests := true, laidLooks := .later }
def CellsStackCardSaid : Prop := Claim7.holds Tryz.pinned (.plain (OpenSpec.ofChange cellsStackSpec)) cellsStackCard

/-- THE TIED CARD OF 'backstitchkeep1.CellsKeys'. -/
def cellsKeysCard : Claim7 := { stood := { row := cellsKeysRow, standIns := [], harness := (true, "2ccd2790d471c8c4a93d990433847ee83391019ee0399ea0a3e4b6ff7bbf9e5f"), looks := false }, kinds := [], alts := [], laidByText := true, laidKinds := [.data, .data, .data, .listed, .data], laidTests := true, laidLooks := .later }
def CellsKeysCardSaid : Prop := Claim7.holds Tryz.pinned (.plain (OpenSpec.ofChange cellsKeysSpec)) cellsKeysCard

/-- THE TIED CARD OF 'backstitchkeep1.CellsKept'. -/
def cellsKeptCard : Claim7 := { stood := { row := cellsKeptRow, standIns := [], harness := (true, "2ccd2790d471c8c4a93d990433847ee83391019ee0399ea0a3e4b6ff7bbf9e5f"), looks := false }, kinds := [], alts := [], laidByText := true, laidKinds := [.data, .data, .data, .listed, .data], laidTests := true, laidLooks := .later }
def CellsKeptCardSaid : Prop := Claim7.holds Tryz.pinned (.plain (OpenSpec.ofChange cellsKeptSpec)) cellsKeptCard

/-- THE TIED CARD OF 'backstitchkeep1.CellsText'. -/
def cellsTextCard : Claim7 := { stood := { row := cellsTextRow, standIns := [], harness := (true, "2ccd2790d471c8c4a93d990433847ee83391019ee0399ea0a3e4b6ff7bbf9e5f"), looks := false }, kinds := [], alts := [], laidByText := true, laidKinds := [.data, .data, .data, .listed, .data], laidTests := true, laidLooks := .later }
def CellsTextCardSaid : Prop := Claim7.holds Tryz.pinned (.plain (OpenSpec.ofChange cellsTextSpec)) cellsTextCard

/-- THE TIED CARD OF 'backstitchkeep1.CellsStay'. -/
def cellsStayCard : Claim7 := { stood := { row := cellsStayRow, standIns := [], harness := (true, "2ccd2790d471c8c4a93d990433847ee83391019ee0399ea0a3e4b6ff7bbf9e5f"), looks := false }, kinds := [], alts := [], laidByText := true, laidKinds := [.data, .data, .data, .listed, .data], laidTests := true, laidLooks := .later }
def CellsStayCardSaid : Prop := Claim7.holds Tryz.pinned (.plain (OpenSpec.ofChange cellsStaySpec)) cellsStayCard

/-- THE TIED CARD OF 'backstitchlaw1.RunPicks'. -/
def runPicksCard : Claim7 := { stood := { row := runPicksRow, standIns := [], harness := (true, "2ccd2790d471c8c4a93d990433847ee83391019ee0399ea0a3e4b6ff7bbf9e5f"), looks := false }, kinds := [], alts := [], laidByText := true, laidKinds := [.data, .data, .data, .listed, .data], laidTests := true, laidLooks := .later }
def RunPicksCardSaid : Prop := Claim7.holds Tryz.pinned (.plain (OpenSpec.ofChange runPicksSpec)) runPicksCard

/-- THE TIED CARD OF 'backstitchlaw1.ReachSays'. -/
def reachSaysCard : Claim7 := { stood := { row := reachSaysRow, standIns := [], harness := (true, "2ccd2790d471c8c4a93d990433847ee83391019ee0399ea0a3e4b6ff7bbf9e5f"), looks := false }, kinds := [], alts := [], laidByText := true, laidKinds := [.listed, .data], laidTests := true, laidLooks := .later }
def ReachSaysCardSaid : Prop := Claim7.holds Tryz.pinned (.plain (OpenSpec.ofChange reachSaysSpec)) reachSaysCard

/-- THE SECOND FORM's CARD OF 'backstitchlaw1.CellsRead'. -/
def cellsReadUptoCard : Claim7 := { stood := { row := cellsReadUptoRow, standIns := [], harness := (true, "2ccd2790d471c8c4a93d990433847ee83391019ee0399ea0a3e4b6ff7bbf9e5f"), looks := false }, kinds := [], alts := [], laidByText := true, laidKinds := [.data, .data, .data, .listed, .data], laidTests := true, laidLooks := .later }
def CellsReadUptoCardSaid : Prop := Claim7.holds Tryz.pinned (.plain (OpenSpec.upto cellsReadSpec)) cellsReadUptoCard

/-- THE SECOND FORM's CARD OF 'backstitchlaw1.CellsCall'. -/
def cellsCallUptoCard : Claim7 := { stood := { row := cellsCallUptoRow, standIns := [], harness := (true, "2ccd2790d471c8c4a93d990433847ee83391019ee0399ea0a3e4b6ff7bbf9e5f"), looks := false }, kinds := [], alts := [], laidByText := true, laidKinds := [.data, .data, .data, .listed, .data], laidTests := true, laidLooks := .later }
def CellsCallUptoCardSaid : Prop := Claim7.holds Tryz.pinned (.plain (OpenSpec.upto cellsCallSpec)) cellsCallUptoCard

/-- THE SECOND FORM's CARD OF 'backstitchkeep1.CellsPut'. -/
def cellsPutUptoCard : Claim7 := { stood := { row := cellsPutUptoRow, standIns := [], harness := (true, "2ccd2790d471c8c4a93d990433847ee83391019ee0399ea0a3e4b6ff7bbf9e5f"), looks := false }, kinds := [], alts := [], laidByText := true, laidKinds := [.data, .data, .data, .listed, .data], laidTests := true, laidLooks := .later }
def CellsPutUptoCardSaid : Prop := Claim7.holds Tryz.pinned (.plain (OpenSpec.upto cellsPutSpec)) cellsPutUptoCard

/-- THE SECOND FORM's CARD OF 'backstitchkeep1.CellsStack'. -/
def cellsStackUptoCard : Claim7 := { stood := { row := cellsStackUptoRow, standIns := [], harness := (true, "2ccd2790d471c8c4a93d990433847ee83391019ee0399ea0a3e4b6ff7bbf9e5f"), looks := false }, kinds := [], alts := [], laidByText := true, laidKinds := [.data, .data, .data, .listed, .data], laidTests := true, laidLooks := .later }
def CellsStackUptoCardSaid : Prop := Claim7.holds Tryz.pinned (.plain (OpenSpec.upto cellsStackSpec)) cellsStackUptoCard

/-- THE SECOND FORM's CARD OF 'backstitchkeep1.CellsKeys'. -/
def cellsKeysUptoCard : Claim7 := { stood := { row := cellsKeysUptoRow, standIns := [], harness := (true, "2ccd2790d471c8c4a93d990433847ee83391019ee0399ea0a3e4b6ff7bbf9e5f"), looks := false }, kinds := [], alts := [], laidByText := true, laidKinds := [.data, .data, .data, .listed, .data], laidTests := true, laidLooks := .later }
def CellsKeysUptoCardSaid : Prop := Claim7.holds Tryz.pinned (.plain (OpenSpec.upto cellsKeysSpec)) cellsKeysUptoCard

/-- THE SECOND FORM's CARD OF 'backstitchkeep1.CellsKept'. -/
def cellsKeptUptoCard : Claim7 := { stood := { row := cellsKeptUptoRow, standIns := [], harness := (true, "2ccd2790d471c8c4a93d990433847ee83391019ee0399ea0a3e4b6ff7bbf9e5f"), looks := false }, kinds := [], alts := [], laidByText := true, laidKinds := [.data, .data, .data, .listed, .data], laidTests := true, laidLooks := .later }
def CellsKeptUptoCardSaid : Prop := Claim7.holds Tryz.pinned (.plain (OpenSpec.upto cellsKeptSpec)) cellsKeptUptoCard

/-- THE SECOND FORM's CARD OF 'backstitchkeep1.CellsText'. -/
def cellsTextUptoCard : Claim7 := { stood := { row := cellsTextUptoRow, standIns := [], harness := (true, "2ccd2790d471c8c4a93d990433847ee83391019ee0399ea0a3e4b6ff7bbf9e5f"), looks := false }, kinds := [], alts := [], laidByText := true, laidKinds := [.data, .data, .data, .listed, .data], laidTests := true, laidLooks := .later }
def CellsTextUptoCardSaid : Prop := Claim7.holds Tryz.pinned (.plain (OpenSpec.upto cellsTextSpec)) cellsTextUptoCard

/-- THE SECOND FORM's CARD OF 'backstitchkeep1.CellsStay'. -/
def cellsStayUptoCard : Claim7 := { stood := { row := cellsStayUptoRow, standIns := [], harness := (true, "2ccd2790d471c8c4a93d990433847ee83391019ee0399ea0a3e4b6ff7bbf9e5f"), looks := false }, kinds := [], alts := [], laidByText := true, laidKinds := [.data, .data, .data, .listed, .data], laidTests := true, laidLooks := .later }
def CellsStayUptoCardSaid : Prop := Claim7.holds Tryz.pinned (.plain (OpenSpec.upto cellsStaySpec)) cellsStayUptoCard

/-- THE SECOND FORM's CARD OF 'backstitchlaw1.RunPicks'. -/
def runPicksUptoCard : Claim7 := { stood := { row := runPicksUptoRow, standIns := [], harness := (true, "2ccd2790d471c8c4a93d990433847ee83391019ee0399ea0a3e4b6ff7bbf9e5f"), looks := false }, kinds := [], alts := [], laidByText := true, laidKinds := [.data, .data, .data, .listed, .data], laidTests := true, laidLooks := .later }
def RunPicksUptoCardSaid : Prop := Claim7.holds Tryz.pinned (.plain (OpenSpec.upto runPicksSpec)) runPicksUptoCard

/-- THE SECOND FORM's CARD OF 'backstitchlaw1.ReachSays'. -/
def reachSaysUptoCard : Claim7 := { stood := { row := reachSaysUptoRow, standIns := [], harness := (true, "2ccd2790d471c8c4a93d990433847ee83391019ee0399ea0a3e4b6ff7bbf9e5f"), looks := false }, kinds := [], alts := [], laidByText := true, laidKinds := [.listed, .data], laidTests := true, laidLooks := .later }
def ReachSaysUptoCardSaid : Prop := Claim7.holds Tryz.pinned (.plain (OpenSpec.upto reachSaysSpec)) reachSaysUptoCard
end Rows
end Go.Proofs.YtomhiphiogbbiaaGreatDoor
