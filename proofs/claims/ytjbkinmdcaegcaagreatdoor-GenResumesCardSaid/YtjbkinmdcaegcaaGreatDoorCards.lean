/-
  DERIVED. GIVEN WITH THE SEED: THE CARDS: each row of YtjbkinmdcaegcaaGreatDoorRows.lean that lists a variable, with what it lists TIED to the program's text (the seventh form; the later family's looks); each row that meets fmt, with fmt's text TOLD by the authors' own Lean function (tested against real Go, not proved from fmt's source: count such statements apart). THE CARD IS WHAT COUNTS. Prove the row's statement (the work); the ties are given (YtjbkinmdcaegcaaGreatDoorTie.lean); close each card by the builder's one call (the guide's Derived/Test/ToyasCard.lean, 'card_holds'). Laid BY PROGRAM, IN A SANDBOX (cutbox-door.mjs). By AI agents, Wed Nov 11 2026. No macro, syntax, notation, axiom, sorry.
-/
import Derived.Test.YtjbkinmdcaegcaaGreatDoorRows
import GoSem.ClaimSeven
namespace Go.Proofs.YtjbkinmdcaegcaaGreatDoor
namespace Rows

/-- THE TIED CARD OF 'backstitchkeep1.StateStart'. -/
def stateStartCard : Claim7 := { stood := { row := stateStartRow, standIns := [], harness := (true, "bfbdd18fb645c5f456ff1746ebc6767cf54c3ee6b7b86918289f40c962192eed"), looks := false }, kinds := [], alts := [], laidByText := true, laidKinds := [.listed, .data], laidTests := true, laidLooks := .later }
def StateStartCardSaid : Prop := Claim7.holds Tryz.pinned (.plain (OpenSpec.ofChange stateStartSpec)) stateStartCard

/-- THE TIED CARD OF 'backstitchkeep1.StateMore'. -/
def stateMoreCard : Claim7 := { stood := { row := stateMoreRow, standIns := [], harness := (true, "bfbdd18fb645c5f456ff1746ebc6767cf54c3ee6b7b86918289f40c962192eed"), looks := false }, kinds := [], alts := [], laidByText := true, laidKinds := [.listed, .data], laidTests := true, laidLooks := .later }
def StateMoreCardSaid : Prop := Claim7.holds Tryz.pinned (.plain (OpenSpec.ofChange stateMoreSpec)) stateMoreCard

/-- THE TIED CARD OF 'backstitchkeep1.StateTurned'. -/
def stateTurnedCard : Claim7 := { stood := { row := stateTurnedRow, standIns := [], harness := (true, "bfbdd18fb645c5f456ff1746ebc6767cf54c3ee6b7b86918289f40c962192eed"), looks := false }, kinds := [], alts := [], laidByText := true, laidKinds := [.listed, .data], laidTests := true, laidLooks := .later }
def StateTurnedCardSaid : Prop := Claim7.holds Tryz.pinned (.plain (OpenSpec.ofChange stateTurnedSpec)) stateTurnedCard

/-- THE TIED CARD OF 'backstitchlaw1.StateSays'. -/
def stateSaysCard : Claim7 := { stood := { row := stateSaysRow, standIns := [], harness := (true, "bfbdd18fb645c5f456ff1746ebc6767cf54c3ee6b7b86918289f40c962192eed"), looks := false }, kinds := [], alts := [], laidByText := true, laidKinds := [.listed, .data], laidTests := true, laidLooks := .later }
def StateSaysCardSaid : Prop := Claim7.holds Tryz.pinned (.plain (OpenSpec.ofChange stateSaysSpec)) stateSaysCard

/-- THE TIED CARD OF 'backstitchlaw1.UnwindSays'. -/
def unwindSaysCard : Claim7 := { stood := { row := unwindSaysRow, standIns := [], harness := (true, "bfbdd18fb645c5f456ff1746ebc6767cf54c3ee6b7b86918289f40c962192eed"), looks := false }, kinds := [], alts := [], laidByText := true, laidKinds := [.listed, .data], laidTests := true, laidLooks := .later }
def UnwindSaysCardSaid : Prop := Claim7.holds Tryz.pinned (.plain (OpenSpec.ofChange unwindSaysSpec)) unwindSaysCard

/-- THE TIED CARD OF 'backstitchkeep1.UnwindDeep'. -/
def unwindDeepCard : Claim7 := { stood := { row := unwindDeepRow, standIns := [], harness := (true, "bfbdd18fb645c5f456ff1746ebc6767cf54c3ee6b7b86918289f40c962192eed"), looks := false }, kinds := [], alts := [], laidByText := true, laidKinds := [.listed, .data], laidTests := true, laidLooks := .later }
def UnwindDeepCardSaid : Prop := Claim7.holds Tryz.pinned (.plain (OpenSpec.ofChange unwindDeepSpec)) unwindDeepCard

/-- THE TIED CARD OF 'backstitchlaw1.GenYields'. -/
def genYieldsCard : Claim7 := { stood := { row := genYieldsRow, standIns := [], harness := (true, "bfbdd18fb645c5f456ff1746ebc6767cf54c3ee6b7b86918289f40c962192eed"), looks := false }, kinds := [], alts := [], laidByText := true, laidKinds := [.listed, .data], laidTests := true, laidLooks := .later }
def GenYieldsCardSaid : Prop := Claim7.holds Tryz.pinned (.plain (OpenSpec.ofChange genYieldsSpec)) genYieldsCard

/-- THE TIED CARD OF 'backstitchlaw1.GenResumes'. -/
def genResumesCard : Claim7 := { stood := { row := genResumesRow, standIns := [], harness := (true, "bfbdd18fb645c5f456ff1746ebc6767cf54c3ee6b7b86918289f40c962192eed"), looks := false }, kinds := [], alts := [], laidByText := true, laidKinds := [.listed, .data], laidTests := true, laidLooks := .later }
def GenResumesCardSaid : Prop := Claim7.holds Tryz.pinned (.plain (OpenSpec.ofChange genResumesSpec)) genResumesCard

/-- THE TIED CARD OF 'backstitchkeep1.UnwindStays'. -/
def unwindStaysCard : Claim7 := { stood := { row := unwindStaysRow, standIns := [], harness := (true, "bfbdd18fb645c5f456ff1746ebc6767cf54c3ee6b7b86918289f40c962192eed"), looks := false }, kinds := [], alts := [], laidByText := true, laidKinds := [.listed, .data], laidTests := true, laidLooks := .later }
def UnwindStaysCardSaid : Prop := Claim7.holds Tryz.pinned (.plain (OpenSpec.ofChange unwindStaysSpec)) unwindStaysCard

/-- THE TIED CARD OF 'backstitchkeep1.ReachMore'. -/
def reachMoreCard : Claim7 := { stood := { row := reachMoreRow, standIns := [], harness := (true, "bfbdd18fb645c5f456ff1746ebc6767cf54c3ee6b7b86918289f40c962192eed"), looks := false }, kinds := [], alts := [], laidByText := true, laidKinds := [.listed, .data], laidTests := true, laidLooks := .later }
def ReachMoreCardSaid : Prop := Claim7.holds Tryz.pinned (.plain (OpenSpec.ofChange reachMoreSpec)) reachMoreCard

/-- THE TIED CARD OF 'backstitchkeep1.ReachKeys'. -/
def reachKeysCard : Claim7 := { stood := { row := reachKeysRow, standIns := [], harness := (true, "bfbdd18fb645c5f456ff1746ebc6767cf54c3ee6b7b86918289f40c962192eed"), looks := false }, kinds := [], alts := [], laidByText := true, laidKinds := [.listed, .data], laidTests := true, laidLooks := .later }
def ReachKeysCardSaid : Prop := Claim7.holds Tryz.pinned (.plain (OpenSpec.ofChange reachKeysSpec)) reachKeysCard

/-- THE TIED CARD OF 'backstitchkeep1.ReachAgain'. -/
def reachAgainCard : Claim7 := { stood := { row := reachAgainRow, standIns := [], harness := (true, "bfbdd18fb645c5f456ff1746ebc6767cf54c3ee6b7b86918289f40c962192eed"), looks := false }, kinds := [], alts := [], laidByText := true, laidKinds := [.listed, .data], laidTests := true, laidLooks := .later }
def ReachAgainCardSaid : Prop := Claim7.holds Tryz.pinned (.plain (OpenSpec.ofChange reachAgainSpec)) reachAgainCard

/-- THE SECOND FORM's CARD OF 'backstitchkeep1.StateStart'. -/
def stateStartUptoCard : Claim7 := { stood := { row := stateStartUptoRow, standIns := [], harness := (true, "bfbdd18fb645c5f456ff1746ebc6767cf54c3ee6b7b86918289f40c962192eed"), looks := false }, kinds := [], alts := [], laidByText := true, laidKinds := [.listed, .data], laidTests := true, laidLooks := .later }
def StateStartUptoCardSaid : Prop := Claim7.holds Tryz.pinned (.plain (OpenSpec.upto stateStartSpec)) stateStartUptoCard

/-- THE SECOND FORM's CARD OF 'backstitchkeep1.StateMore'. -/
def stateMoreUptoCard : Claim7 := { stood := { row := stateMoreUptoRow, standIns := [], harness := (true, "bfbdd18fb645c5f456ff1746ebc6767cf54c3ee6b7b86918289f40c962192eed"), looks := false }, kinds := [], alts := [], laidByText := true, laidKinds := [.listed, .data], laidTests := true, laidLooks := .later }
def StateMoreUptoCardSaid : Prop := Claim7.holds Tryz.pinned (.plain (OpenSpec.upto stateMoreSpec)) stateMoreUptoCard

/-- THE SECOND FORM's CARD OF 'backstitchkeep1.StateTurned'. -/
def stateTurnedUptoCard : Claim7 := { stood := { row := stateTurnedUptoRow, standIns := [], harness := (true, "bfbdd18fb645c5f456ff1746ebc6767cf54c3ee6b7b86918289f40c962192eed"), looks := false }, kinds := [], alts := [], laidByText := true, laidKinds := [.listed, .data], laidTests := true, laidLooks := .later }
def StateTurnedUptoCardSaid : Prop := Claim7.holds Tryz.pinned (.plain (OpenSpec.upto stateTurnedSpec)) stateTurnedUptoCard

/-- THE SECOND FORM's CARD OF 'backstitchlaw1.StateSays'. -/
def stateSaysUptoCard : Claim7 := { stood := { row := stateSaysUptoRow, standIns := [], harness := (true, "bfbdd18fb645c5f456ff1746ebc6767cf54c3ee6b7b86918289f40c962192eed"), looks := false }, kinds := [], alts := [], laidByText := true, laidKinds := [.listed, .data], laidTests := true, laidLooks := .later }
def StateSaysUptoCardSaid : Prop := Claim7.holds Tryz.pinned (.plain (OpenSpec.upto stateSaysSpec)) stateSaysUptoCard

/-- THE SECOND FORM's CARD OF 'backstitchlaw1.UnwindSays'. -/
def unwindSaysUptoCard : Claim7 := { stood := { row := unwindSaysUptoRow, standIns := [], harness := (true, "bfbdd18fb645c5f456ff1746ebc6767cf54c3ee6b7b86918289f40c962192eed"), looks := false }, kinds := [], alts := [], laidByText := true, laidKinds := [.listed, .data], laidTests := true, laidLooks := .later }
def UnwindSaysUptoCardSaid : Prop := Claim7.holds Tryz.pinned (.plain (OpenSpec.upto unwindSaysSpec)) unwindSaysUptoCard

/-- THE SECOND FORM's CARD OF 'backstitchkeep1.UnwindDeep'. -/
def unwindDeepUptoCard : Claim7 := { stood := { row := unwindDeepUptoRow, standIns := [], harness := (true, "bfbdd18fb645c5f456ff1746ebc6767cf54c3ee6b7b86918289f40c962192eed"), looks := false }, kinds := [], alts := [], laidByText := true, laidKinds := [.listed, .data], laidTests := true, laidLooks := .later }
def UnwindDeepUptoCardSaid : Prop := Claim7.holds Tryz.pinned (.plain (OpenSpec.upto unwindDeepSpec)) unwindDeepUptoCard

/-- THE SECOND FORM's CARD OF 'backstitchlaw1.GenYields'. -/
def genYieldsUptoCard : Claim7 := { stood := { row := genYieldsUptoRow, standIns := [], harness := (true, "bfbdd18fb645c5f456ff1746ebc6767cf54c3ee6b7b86918289f40c962192eed"), looks := false }, kinds := [], alts := [], laidByText := true, laidKinds := [.listed, .data], laidTests := true, laidLooks := .later }
def GenYieldsUptoCardSaid : Prop := Claim7.holds Tryz.pinned (.plain (OpenSpec.upto genYieldsSpec)) genYieldsUptoCard

/-- THE SECOND FORM's CARD OF 'backstitchlaw1.GenResumes'. -/
def genResumesUptoCard : Claim7 := { stood := { row := genResumesUptoRow, standIns := [], harness := (true, "bfbdd18fb645c5f456ff1746ebc6767cf54c3ee6b7b86918289f40c962192eed"), looks := false }, kinds := [], alts := [], laidByText := true, laidKinds := [.listed, .data], laidTests := true, laidLooks := .later }
def GenResumesUptoCardSaid : Prop := Claim7.holds Tryz.pinned (.plain (OpenSpec.upto genResumesSpec)) genResumesUptoCard

/-- THE SECOND FORM's CARD OF 'backstitchkeep1.UnwindStays'. -/
def unwindStaysUptoCard : Claim7 := { stood := { row := unwindStaysUptoRow, standIns := [], harness := (true, "bfbdd18fb645c5f456ff1746ebc6767cf54c3ee6b7b86918289f40c962192eed"), looks := false }, kinds := [], alts := [], laidByText := true, laidKinds := [.listed, .data], laidTests := true, laidLooks := .later }
def UnwindStaysUptoCardSaid : Prop := Claim7.holds Tryz.pinned (.plain (OpenSpec.upto unwindStaysSpec)) unwindStaysUptoCard

/-- THE SECOND FORM's CARD OF 'backstitchkeep1.ReachMore'. -/
def reachMoreUptoCard : Claim7 := { stood := { row := reachMoreUptoRow, standIns := [], harness := (true, "bfbdd18fb645c5f456ff1746ebc6767cf54c3ee6b7b86918289f40c962192eed"), looks := false }, kinds := [], alts := [], laidByText := true, laidKinds := [.listed, .data], laidTests := true, laidLooks := .later }
def ReachMoreUptoCardSaid : Prop := Claim7.holds Tryz.pinned (.plain (OpenSpec.upto reachMoreSpec)) reachMoreUptoCard

/-- THE SECOND FORM's CARD OF 'backstitchkeep1.ReachKeys'. -/
def reachKeysUptoCard : Claim7 := { stood := { row := reachKeysUptoRow, standIns := [], harness := (true, "bfbdd18fb645c5f456ff1746ebc6767cf54c3ee6b7b86918289f40c962192eed"), looks := false }, kinds := [], alts := [], laidByText := true, laidKinds := [.listed, .data], laidTests := true, laidLooks := .later }
def ReachKeysUptoCardSaid : Prop := Claim7.holds Tryz.pinned (.plain (OpenSpec.upto reachKeysSpec)) reachKeysUptoCard

/-- THE SECOND FORM's CARD OF 'backstitchkeep1.ReachAgain'. -/
def reachAgainUptoCard : Claim7 := { stood := { row := reachAgainUptoRow, standIns := [], harness := (true, "bfbdd18fb645c5f456ff1746ebc6767cf54c3ee6b7b86918289f40c962192eed"), looks := false }, kinds := [], alts := [], laidByText := true, laidKinds := [.listed, .data], laidTests := true, laidLooks := .later }
def ReachAgainUptoCardSaid : Prop := Claim7.holds Tryz.pinned (.plain (OpenSpec.upto reachAgainSpec)) reachAgainUptoCard
end Rows
end Go.Proofs.YtjbkinmdcaegcaaGreatDoor
