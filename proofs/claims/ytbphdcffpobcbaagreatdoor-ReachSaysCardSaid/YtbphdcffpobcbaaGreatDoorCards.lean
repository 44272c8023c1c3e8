/-
  DERIVED. GIVEN WITH THE SEED: THE CARDS: each row of YtbphdcffpobcbaaGreatDoorRows.lean that lists a variable, with what it lists TIED to the program's text (the seventh form; the later family's looks); each row that meets fmt, with fmt's text TOLD by the authors' own Lean function (tested against real Go, not proved from fmt's source: count such statements apart). THE CARD IS WHAT COUNTS. Prove the row's statement (the work); the ties are given (YtbphdcffpobcbaaGreatDoorTie.lean); close each card by the builder's one call (the guide's Derived/Test/ToyasCard.lean, 'card_holds'). Laid BY PROGRAM, IN A SANDBOX (cutbox-door.mjs). By AI agents, Wed Nov 11 2026. No macro, syntax, notation, axiom, sorry.
-/
import Derived.Test.YtbphdcffpobcbaaGreatDoorRows
import GoSem.ClaimSeven
namespace Go.Proofs.YtbphdcffpobcbaaGreatDoor
namespace Rows

/-- THE TIED CARD OF 'backstitchlaw1.CellsCall'. -/
def cellsCallCard : Claim7 := { stood := { row := cellsCallRow, standIns := [], harness := (true, "649f7d636a124f1c9608720d2ecb199ec101bdf0eb8f0afd898cf29322994591"), looks := false }, kinds := [], alts := [], laidByText := true, laidKinds := [.data, .data, .data, .listed, .data], laidTests := true, laidLooks := .later }
def CellsCallCardSaid : Prop := Claim7.holds Tryz.pinned (.plain (OpenSpec.ofChange cellsCallSpec)) cellsCallCard

/-- THE TIED CARD OF 'backstitchlaw1.RunPicks'. -/
def runPicksCard : Claim7 := { stood := { row := runPicksRow, standIns := [], harness := (true, "649f7d636a124f1c9608720d2ecb199ec101bdf0eb8f0afd898cf29322994591"), looks := false }, kinds := [], alts := [], laidByText := true, laidKinds := [.data, .data, .data, .listed, .data], laidTests := true, laidLooks := .later }
def RunPicksCardSaid : Prop := Claim7.holds Tryz.pinned (.plain (OpenSpec.ofChange runPicksSpec)) runPicksCard

/-- THE TIED CARD OF 'backstitchlaw1.ReachSays'. -/
def reachSaysCard : Claim7 := { stood := { row := reachSaysRow, standIns := [], harness := (true, "649f7d636a124f1c9608720d2ecb199ec101bdf0eb8f0afd898cf29322994591"), looks := false }, kinds := [], alts := [], laidByText := true, laidKinds := [.listed, .data], laidTests := true, laidLooks := .later }
def ReachSaysCardSaid : Prop := Claim7.holds Tryz.pinned (.plain (OpenSpec.ofChange reachSaysSpec)) reachSaysCard

/-- THE SECOND FORM's CARD OF 'backstitchlaw1.CellsCall'. -/
def cellsCallUptoCard : Claim7 := { stood := { row := cellsCallUptoRow, standIns := [], harness := (true, "649f7d636a124f1c9608720d2ecb199ec101bdf0eb8f0afd898cf29322994591"), looks := false }, kinds := [], alts := [], laidByText := true, laidKinds := [.data, .data, .data, .listed, .data], laidTests := true, laidLooks := .later }
def CellsCallUptoCardSaid : Prop := Claim7.holds Tryz.pinned (.plain (OpenSpec.upto cellsCallSpec)) cellsCallUptoCard

/-- THE SECOND FORM's CARD OF 'backstitchlaw1.RunPicks'. -/
def runPicksUptoCard : Claim7 := { stood := { row := runPicksUptoRow, standIns := [], harness := (true, "649f7d636a124f1c9608720d2ecb199ec101bdf0eb8f0afd898cf29322994591"), looks := false }, kinds := [], alts := [], laidByText := true, laidKinds := [.data, .data, .data, .listed, .data], laidTests := true, laidLooks := .later }
def RunPicksUptoCardSaid : Prop := Claim7.holds Tryz.pinned (.plain (OpenSpec.upto runPicksSpec)) runPicksUptoCard

/-- THE SECOND FORM's CARD OF 'backstitchlaw1.ReachSays'. -/
def reachSaysUptoCard : Claim7 := { stood := { row := reachSaysUptoRow, standIns := [], harness := (true, "649f7d636a124f1c9608720d2ecb199ec101bdf0eb8f0afd898cf29322994591"), looks := false }, kinds := [], alts := [], laidByText := true, laidKinds := [.listed, .data], laidTests := true, laidLooks := .later }
def ReachSaysUptoCardSaid : Prop := Claim7.holds Tryz.pinned (.plain (OpenSpec.upto reachSaysSpec)) reachSaysUptoCard
end Rows
end Go.Proofs.YtbphdcffpobcbaaGreatDoor
