/-
  DERIVED. GIVEN WITH THE SEED: THE CARDS: each row of YtalippdhfkpbmaaDoorRows.lean that lists a variable, with what it lists TIED to the program's text (the seventh form; the later family's looks); each row that meets fmt, with fmt's text TOLD by the authors' own Lean function (tested against real Go, not proved from fmt's source: count such statements apart). THE CARD IS WHAT COUNTS. Prove the row's statement (the work); the ties are given (YtalippdhfkpbmaaDoorTie.lean); close each card by the builder's one call (the guide's Derived/Test/ToyasCard.lean, 'card_holds'). Laid BY PROGRAM, IN A SANDBOX (cutbox-door.mjs). By AI agents, Wed Nov 11 2026. No macro, syntax, notation, axiom, sorry.
-/
import Derived.Test.YtalippdhfkpbmaaDoorRows
import GoSem.ClaimSeven
namespace Go.Proofs.YtalippdhfkpbmaaDoor
namespace Rows

/-- THE TIED CARD OF 'backstitchlaw1.OpsSay'. -/
def opsSayCard : Claim7 := { stood := { row := opsSayRow, standIns := [], harness := (true, "4da94772299d49a46a470b8e019a6d26686646e07ba2ca2f61e7d983d451178f"), looks := false }, kinds := [], alts := [], laidByText := true, laidKinds := [.listed, .data], laidTests := true, laidLooks := .later }
def OpsSayCardSaid : Prop := Claim7.holds Tryd.pinned (.plain (OpenSpec.ofChange opsSaySpec)) opsSayCard

/-- THE TIED CARD OF 'backstitchkeep1.CodeNext'. -/
def codeNextCard : Claim7 := { stood := { row := codeNextRow, standIns := [], harness := (true, "4da94772299d49a46a470b8e019a6d26686646e07ba2ca2f61e7d983d451178f"), looks := false }, kinds := [], alts := [], laidByText := true, laidKinds := [.listed, .data], laidTests := true, laidLooks := .later }
def CodeNextCardSaid : Prop := Claim7.holds Tryd.pinned (.plain (OpenSpec.ofChange codeNextSpec)) codeNextCard

/-- THE TIED CARD OF 'backstitchkeep1.CodeDead'. -/
def codeDeadCard : Claim7 := { stood := { row := codeDeadRow, standIns := [], harness := (true, "4da94772299d49a46a470b8e019a6d26686646e07ba2ca2f61e7d983d451178f"), looks := false }, kinds := [], alts := [], laidByText := true, laidKinds := [.listed, .data], laidTests := true, laidLooks := .later }
def CodeDeadCardSaid : Prop := Claim7.holds Tryd.pinned (.plain (OpenSpec.ofChange codeDeadSpec)) codeDeadCard

/-- THE TIED CARD OF 'backstitchlaw1.CodeSays'. -/
def codeSaysCard : Claim7 := { stood := { row := codeSaysRow, standIns := [], harness := (true, "4da94772299d49a46a470b8e019a6d26686646e07ba2ca2f61e7d983d451178f"), looks := false }, kinds := [], alts := [], laidByText := true, laidKinds := [.listed, .data], laidTests := true, laidLooks := .later }
def CodeSaysCardSaid : Prop := Claim7.holds Tryd.pinned (.plain (OpenSpec.ofChange codeSaysSpec)) codeSaysCard

/-- THE TIED CARD OF 'backstitchkeep1.CodeMore'. -/
def codeMoreCard : Claim7 := { stood := { row := codeMoreRow, standIns := [], harness := (true, "4da94772299d49a46a470b8e019a6d26686646e07ba2ca2f61e7d983d451178f"), looks := false }, kinds := [], alts := [], laidByText := true, laidKinds := [.listed, .data], laidTests := true, laidLooks := .later }
def CodeMoreCardSaid : Prop := Claim7.holds Tryd.pinned (.plain (OpenSpec.ofChange codeMoreSpec)) codeMoreCard

/-- THE SECOND FORM's CARD OF 'backstitchlaw1.OpsSay'. -/
def opsSayUptoCard : Claim7 := { stood := { row := opsSayUptoRow, standIns := [], harness := (true, "4da94772299d49a46a470b8e019a6d26686646e07ba2ca2f61e7d983d451178f"), looks := false }, kinds := [], alts := [], laidByText := true, laidKinds := [.listed, .data], laidTests := true, laidLooks := .later }
def OpsSayUptoCardSaid : Prop := Claim7.holds Tryd.pinned (.plain (OpenSpec.upto opsSaySpec)) opsSayUptoCard

/-- THE SECOND FORM's CARD OF 'backstitchkeep1.CodeNext'. -/
def codeNextUptoCard : Claim7 := { stood := { row := codeNextUptoRow, standIns := [], harness := (true, "4da94772299d49a46a470b8e019a6d26686646e07ba2ca2f61e7d983d451178f"), looks := false }, kinds := [], alts := [], laidByText := true, laidKinds := [.listed, .data], laidTests := true, laidLooks := .later }
def CodeNextUptoCardSaid : Prop := Claim7.holds Tryd.pinned (.plain (OpenSpec.upto codeNextSpec)) codeNextUptoCard

/-- THE SECOND FORM's CARD OF 'backstitchkeep1.CodeDead'. -/
def codeDeadUptoCard : Claim7 := { stood := { row := codeDeadUptoRow, standIns := [], harness := (true, "4da94772299d49a46a470b8e019a6d26686646e07ba2ca2f61e7d983d451178f"), looks := false }, kinds := [], alts := [], laidByText := true, laidKinds := [.listed, .data], laidTests := true, laidLooks := .later }
def CodeDeadUptoCardSaid : Prop := Claim7.holds Tryd.pinned (.plain (OpenSpec.upto codeDeadSpec)) codeDeadUptoCard

/-- THE SECOND FORM's CARD OF 'backstitchlaw1.CodeSays'. -/
def codeSaysUptoCard : Claim7 := { stood := { row := codeSaysUptoRow, standIns := [], harness := (true, "4da94772299d49a46a470b8e019a6d26686646e07ba2ca2f61e7d983d451178f"), looks := false }, kinds := [], alts := [], laidByText := true, laidKinds := [.listed, .data], laidTests := true, laidLooks := .later }
def CodeSaysUptoCardSaid : Prop := Claim7.holds Tryd.pinned (.plain (OpenSpec.upto codeSaysSpec)) codeSaysUptoCard

/-- THE SECOND FORM's CARD OF 'backstitchkeep1.CodeMore'. -/
def codeMoreUptoCard : Claim7 := { stood := { row := codeMoreUptoRow, standIns := [], harness := (true, "4da94772299d49a46a470b8e019a6d26686646e07ba2ca2f61e7d983d451178f"), looks := false }, kinds := [], alts := [], laidByText := true, laidKinds := [.listed, .data], laidTests := true, laidLooks := .later }
def CodeMoreUptoCardSaid : Prop := Claim7.holds Tryd.pinned (.plain (OpenSpec.upto codeMoreSpec)) codeMoreUptoCard
end Rows
end Go.Proofs.YtalippdhfkpbmaaDoor
