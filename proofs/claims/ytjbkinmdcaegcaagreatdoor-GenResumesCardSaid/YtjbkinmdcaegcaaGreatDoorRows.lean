/-
  NARROWER THAN 'FOR EVERY INPUT', by the rows' own cells (each row's printed sentence says how): StateStart: laid · StateMore: laid · StateTurned: laid · StateSays: laid · UnwindSays: laid · UnwindDeep: laid · GenYields: laid · GenResumes: laid · UnwindStays: laid · ReachMore: laid · ReachKeys: laid · ReachAgain: laid.
  DERIVED. THE GIVEN ROWS OF THIS SEAT. 12 by the template 'for every input the law returns true; each argument reads behind the call as it read before'; 0 by the template 'total and deterministic' (their statements: YtjbkinmdcaegcaaGreatDoorTotals.lean).
  GIVEN WITH THE SEED: the statements are not yours to turn. If you find one false, say at which input.
  Laid BY PROGRAM, IN A SANDBOX (cutbox-rows.mjs): the forced cells as the released guide's own fill.sh prints them over the translation 6780e4cb09244ba5… (all of the seat's roots in one cut). By AI agents, Wed Nov 11 2026. No macro, syntax, notation, axiom, sorry.
-/
import Derived.Test.YtjbkinmdcaegcaaGreatDoorChecked
import GoSem.Claim
import GoSem.ClaimJoined
import GoSem.ClaimMapViews
import Derived.JoinedTies
import Derived.KernelRfl
namespace Go.Proofs.YtjbkinmdcaegcaaGreatDoor
/- THE CELL 'sum', in the pinned program and in every row, IS THE sha256 OF THE DUMP (.gsa) THAT YtjbkinmdcaegcaaGreatDoorProg.lean LOADS. Nothing in Lean hashes anything: it is a label: what it is worth is what the hold of that sum in a sandbox is worth. -/
noncomputable def Tryz.pinned : Pinned := { name := "ytjbkinmdcaegcaagreatdoor", sum := "6780e4cb09244ba5c44a3fa0d6fc1b8b9d8193a17a5f07c429096ef052cfa276", checked := Tryz.checked }
namespace Rows
def none {H : Type} : Left H := { results := [], args := [] }

/- WHAT THE LISTED PACKAGE-LEVEL VARIABLES READ AS WHEN THE CALL BEGINS. Each datum BY PROGRAM (the guide's laid-datum.mjs) off the statement by which the dump's own 'gosem.cut.vars' lays the variable. In a bare row this is a premise. The card (YtjbkinmdcaegcaaGreatDoorCards.lean) ties it to the program's text. -/
def laid_unicode_White_Space {H : Type} : DataW H := .ptr (.agg [.slice [.agg [.lit (.int .u16 9), .lit (.int .u16 13), .lit (.int .u16 1)], .agg [.lit (.int .u16 32), .lit (.int .u16 133), .lit (.int .u16 101)], .agg [.lit (.int .u16 160), .lit (.int .u16 5760), .lit (.int .u16 5600)], .agg [.lit (.int .u16 8192), .lit (.int .u16 8202), .lit (.int .u16 1)], .agg [.lit (.int .u16 8232), .lit (.int .u16 8233), .lit (.int .u16 1)], .agg [.lit (.int .u16 8239), .lit (.int .u16 8287), .lit (.int .u16 48)], .agg [.lit (.int .u16 12288), .lit (.int .u16 12288), .lit (.int .u16 1)]] [], .nil, .lit (.int .i64 2)])
def laid_strings_asciiSpace {H : Type} : DataW H := .agg [.lit (.int .u8 0), .lit (.int .u8 0), .lit (.int .u8 0), .lit (.int .u8 0), .lit (.int .u8 0), .lit (.int .u8 0), .lit (.int .u8 0), .lit (.int .u8 0), .lit (.int .u8 0), .lit (.int .u8 1), .lit (.int .u8 1), .lit (.int .u8 1), .lit (.int .u8 1), .lit (.int .u8 1), .lit (.int .u8 0), .lit (.int .u8 0), .lit (.int .u8 0), .lit (.int .u8 0), .lit (.int .u8 0), .lit (.int .u8 0), .lit (.int .u8 0), .lit (.int .u8 0), .lit (.int .u8 0), .lit (.int .u8 0), .lit (.int .u8 0), .lit (.int .u8 0), .lit (.int .u8 0), .lit (.int .u8 0), .lit (.int .u8 0), .lit (.int .u8 0), .lit (.int .u8 0), .lit (.int .u8 0), .lit (.int .u8 1), .lit (.int .u8 0), .lit (.int .u8 0), .lit (.int .u8 0), .lit (.int .u8 0), .lit (.int .u8 0), .lit (.int .u8 0), .lit (.int .u8 0), .lit (.int .u8 0), .lit (.int .u8 0), .lit (.int .u8 0), .lit (.int .u8 0), .lit (.int .u8 0), .lit (.int .u8 0), .lit (.int .u8 0), .lit (.int .u8 0), .lit (.int .u8 0), .lit (.int .u8 0), .lit (.int .u8 0), .lit (.int .u8 0), .lit (.int .u8 0), .lit (.int .u8 0), .lit (.int .u8 0), .lit (.int .u8 0), .lit (.int .u8 0), .lit (.int .u8 0), .lit (.int .u8 0), .lit (.int .u8 0), .lit (.int .u8 0), .lit (.int .u8 0), .lit (.int .u8 0), .lit (.int .u8 0), .lit (.int .u8 0), .lit (.int .u8 0), .lit (.int .u8 0), .lit (.int .u8 0), .lit (.int .u8 0), .lit (.int .u8 0), .lit (.int .u8 0), .lit (.int .u8 0), .lit (.int .u8 0), .lit (.int .u8 0), .lit (.int .u8 0), .lit (.int .u8 0), .lit (.int .u8 0), .lit (.int .u8 0), .lit (.int .u8 0), .lit (.int .u8 0), .lit (.int .u8 0), .lit (.int .u8 0), .lit (.int .u8 0), .lit (.int .u8 0), .lit (.int .u8 0), .lit (.int .u8 0), .lit (.int .u8 0), .lit (.int .u8 0), .lit (.int .u8 0), .lit (.int .u8 0), .lit (.int .u8 0), .lit (.int .u8 0), .lit (.int .u8 0), .lit (.int .u8 0), .lit (.int .u8 0), .lit (.int .u8 0), .lit (.int .u8 0), .lit (.int .u8 0), .lit (.int .u8 0), .lit (.int .u8 0), .lit (.int .u8 0), .lit (.int .u8 0), .lit (.int .u8 0), .lit (.int .u8 0), .lit (.int .u8 0), .lit (.int .u8 0), .lit (.int .u8 0), .lit (.int .u8 0), .lit (.int .u8 0), .lit (.int .u8 0), .lit (.int .u8 0), .lit (.int .u8 0), .lit (.int .u8 0), .lit (.int .u8 0), .lit (.int .u8 0), .lit (.int .u8 0), .lit (.int .u8 0), .lit (.int .u8 0), .lit (.int .u8 0), .lit (.int .u8 0), .lit (.int .u8 0), .lit (.int .u8 0), .lit (.int .u8 0), .lit (.int .u8 0), .lit (.int .u8 0), .lit (.int .u8 0), .lit (.int .u8 0), .lit (.int .u8 0), .lit (.int .u8 0), .lit (.int .u8 0), .lit (.int .u8 0), .lit (.int .u8 0), .lit (.int .u8 0), .lit (.int .u8 0), .lit (.int .u8 0), .lit (.int .u8 0), .lit (.int .u8 0), .lit (.int .u8 0), .lit (.int .u8 0), .lit (.int .u8 0), .lit (.int .u8 0), .lit (.int .u8 0), .lit (.int .u8 0), .lit (.int .u8 0), .lit (.int .u8 0), .lit (.int .u8 0), .lit (.int .u8 0), .lit (.int .u8 0), .lit (.int .u8 0), .lit (.int .u8 0), .lit (.int .u8 0), .lit (.int .u8 0), .lit (.int .u8 0), .lit (.int .u8 0), .lit (.int .u8 0), .lit (.int .u8 0), .lit (.int .u8 0), .lit (.int .u8 0), .lit (.int .u8 0), .lit (.int .u8 0), .lit (.int .u8 0), .lit (.int .u8 0), .lit (.int .u8 0), .lit (.int .u8 0), .lit (.int .u8 0), .lit (.int .u8 0), .lit (.int .u8 0), .lit (.int .u8 0), .lit (.int .u8 0), .lit (.int .u8 0), .lit (.int .u8 0), .lit (.int .u8 0), .lit (.int .u8 0), .lit (.int .u8 0), .lit (.int .u8 0), .lit (.int .u8 0), .lit (.int .u8 0), .lit (.int .u8 0), .lit (.int .u8 0), .lit (.int .u8 0), .lit (.int .u8 0), .lit (.int .u8 0), .lit (.int .u8 0), .lit (.int .u8 0), .lit (.int .u8 0), .lit (.int .u8 0), .lit (.int .u8 0), .lit (.int .u8 0), .lit (.int .u8 0), .lit (.int .u8 0), .lit (.int .u8 0), .lit (.int .u8 0), .lit (.int .u8 0), .lit (.int .u8 0), .lit (.int .u8 0), .lit (.int .u8 0), .lit (.int .u8 0), .lit (.int .u8 0), .lit (.int .u8 0), .lit (.int .u8 0), .lit (.int .u8 0), .lit (.int .u8 0), .lit (.int .u8 0), .lit (.int .u8 0), .lit (.int .u8 0), .lit (.int .u8 0), .lit (.int .u8 0), .lit (.int .u8 0), .lit (.int .u8 0), .lit (.int .u8 0), .lit (.int .u8 0), .lit (.int .u8 0), .lit (.int .u8 0), .lit (.int .u8 0), .lit (.int .u8 0), .lit (.int .u8 0), .lit (.int .u8 0), .lit (.int .u8 0), .lit (.int .u8 0), .lit (.int .u8 0), .lit (.int .u8 0), .lit (.int .u8 0), .lit (.int .u8 0), .lit (.int .u8 0), .lit (.int .u8 0), .lit (.int .u8 0), .lit (.int .u8 0), .lit (.int .u8 0), .lit (.int .u8 0), .lit (.int .u8 0), .lit (.int .u8 0), .lit (.int .u8 0), .lit (.int .u8 0), .lit (.int .u8 0), .lit (.int .u8 0), .lit (.int .u8 0), .lit (.int .u8 0), .lit (.int .u8 0), .lit (.int .u8 0), .lit (.int .u8 0), .lit (.int .u8 0), .lit (.int .u8 0), .lit (.int .u8 0), .lit (.int .u8 0), .lit (.int .u8 0), .lit (.int .u8 0), .lit (.int .u8 0), .lit (.int .u8 0), .lit (.int .u8 0), .lit (.int .u8 0), .lit (.int .u8 0), .lit (.int .u8 0), .lit (.int .u8 0), .lit (.int .u8 0), .lit (.int .u8 0), .lit (.int .u8 0)]

/-- 'backstitchkeep1.StateStart': WHATEVER THE INPUT: true; the input reads as it did. -/
def stateStartSpec : ChangeSpec := { name := "stateStart", fn := fun _ => fun
  | [d] => { results := [.lit (.bool true)], args := [d] }
  | _ => none }
def stateStartRow : OpenClaim := { program := "ytjbkinmdcaegcaagreatdoor", sum := "6780e4cb09244ba5c44a3fa0d6fc1b8b9d8193a17a5f07c429096ef052cfa276", func := "backstitch/backstitchkeep1.StateStart", spec := "stateStart", inPlace := ["math.Float64frombits"], unfollowed := true, recurses := true, named := ["strings.asciiSpace", "unicode.White_Space"], plainKeys := false, apart := false, laid := [("unicode.White_Space", laid_unicode_White_Space), ("strings.asciiSpace", laid_strings_asciiSpace)] }
def StateStartSaid : Prop := stateStartRow.holds Tryz.pinned (OpenSpec.ofChange stateStartSpec)

/-- ITS FALSE NEIGHBOUR: 'it returns false'. Refute it at one input. -/
def stateStartWrong : ChangeSpec := { name := "stateStart", fn := fun _ => fun
  | [d] => { results := [.lit (.bool false)], args := [d] }
  | _ => none }
def StateStartWrongFalsely : Prop := stateStartRow.holds Tryz.pinned (OpenSpec.ofChange stateStartWrong)

/-- 'backstitchkeep1.StateMore': WHATEVER THE INPUT: true; the input reads as it did. -/
def stateMoreSpec : ChangeSpec := { name := "stateMore", fn := fun _ => fun
  | [d1, d2, d3] => { results := [.lit (.bool true)], args := [d1, d2, d3] }
  | _ => none }
def stateMoreRow : OpenClaim := { program := "ytjbkinmdcaegcaagreatdoor", sum := "6780e4cb09244ba5c44a3fa0d6fc1b8b9d8193a17a5f07c429096ef052cfa276", func := "backstitch/backstitchkeep1.StateMore", spec := "stateMore", inPlace := ["math.Float64frombits"], unfollowed := true, recurses := true, named := ["strings.asciiSpace", "unicode.White_Space"], plainKeys := false, apart := false, laid := [("unicode.White_Space", laid_unicode_White_Space), ("strings.asciiSpace", laid_strings_asciiSpace)] }
def StateMoreSaid : Prop := stateMoreRow.holds Tryz.pinned (OpenSpec.ofChange stateMoreSpec)

/-- ITS FALSE NEIGHBOUR: 'it returns false'. Refute it at one input. -/
def stateMoreWrong : ChangeSpec := { name := "stateMore", fn := fun _ => fun
  | [d1, d2, d3] => { results := [.lit (.bool false)], args := [d1, d2, d3] }
  | _ => none }
def StateMoreWrongFalsely : Prop := stateMoreRow.holds Tryz.pinned (OpenSpec.ofChange stateMoreWrong)

/-- 'backstitchkeep1.StateTurned': WHATEVER THE INPUT: true; the input reads as it did. -/
def stateTurnedSpec : ChangeSpec := { name := "stateTurned", fn := fun _ => fun
  | [d1, d2, d3, d4, d5] => { results := [.lit (.bool true)], args := [d1, d2, d3, d4, d5] }
  | _ => none }
def stateTurnedRow : OpenClaim := { program := "ytjbkinmdcaegcaagreatdoor", sum := "6780e4cb09244ba5c44a3fa0d6fc1b8b9d8193a17a5f07c429096ef052cfa276", func := "backstitch/backstitchkeep1.StateTurned", spec := "stateTurned", inPlace := ["math.Float64frombits"], unfollowed := true, recurses := true, named := ["strings.asciiSpace", "unicode.White_Space"], plainKeys := false, apart := false, laid := [("unicode.White_Space", laid_unicode_White_Space), ("strings.asciiSpace", laid_strings_asciiSpace)] }
def StateTurnedSaid : Prop := stateTurnedRow.holds Tryz.pinned (OpenSpec.ofChange stateTurnedSpec)

/-- ITS FALSE NEIGHBOUR: 'it returns false'. Refute it at one input. -/
def stateTurnedWrong : ChangeSpec := { name := "stateTurned", fn := fun _ => fun
  | [d1, d2, d3, d4, d5] => { results := [.lit (.bool false)], args := [d1, d2, d3, d4, d5] }
  | _ => none }
def StateTurnedWrongFalsely : Prop := stateTurnedRow.holds Tryz.pinned (OpenSpec.ofChange stateTurnedWrong)

/-- 'backstitchlaw1.StateSays': WHATEVER THE INPUT: true; the input reads as it did. -/
def stateSaysSpec : ChangeSpec := { name := "stateSays", fn := fun _ => fun
  | [d1, d2, d3] => { results := [.lit (.bool true)], args := [d1, d2, d3] }
  | _ => none }
def stateSaysRow : OpenClaim := { program := "ytjbkinmdcaegcaagreatdoor", sum := "6780e4cb09244ba5c44a3fa0d6fc1b8b9d8193a17a5f07c429096ef052cfa276", func := "backstitch/backstitchlaw1.StateSays", spec := "stateSays", inPlace := ["math.Float64frombits"], unfollowed := true, recurses := true, named := ["strings.asciiSpace", "unicode.White_Space"], plainKeys := false, apart := false, laid := [("unicode.White_Space", laid_unicode_White_Space), ("strings.asciiSpace", laid_strings_asciiSpace)] }
def StateSaysSaid : Prop := stateSaysRow.holds Tryz.pinned (OpenSpec.ofChange stateSaysSpec)

/-- ITS FALSE NEIGHBOUR: 'it returns false'. Refute it at one input. -/
def stateSaysWrong : ChangeSpec := { name := "stateSays", fn := fun _ => fun
  | [d1, d2, d3] => { results := [.lit (.bool false)], args := [d1, d2, d3] }
  | _ => none }
def StateSaysWrongFalsely : Prop := stateSaysRow.holds Tryz.pinned (OpenSpec.ofChange stateSaysWrong)

/-- 'backstitchlaw1.UnwindSays': WHATEVER THE INPUT: true; the input reads as it did. -/
def unwindSaysSpec : ChangeSpec := { name := "unwindSays", fn := fun _ => fun
  | [d1, d2, d3, d4] => { results := [.lit (.bool true)], args := [d1, d2, d3, d4] }
  | _ => none }
def unwindSaysRow : OpenClaim := { program := "ytjbkinmdcaegcaagreatdoor", sum := "6780e4cb09244ba5c44a3fa0d6fc1b8b9d8193a17a5f07c429096ef052cfa276", func := "backstitch/backstitchlaw1.UnwindSays", spec := "unwindSays", inPlace := ["math.Float64frombits"], unfollowed := true, recurses := true, named := ["strings.asciiSpace", "unicode.White_Space"], plainKeys := false, apart := false, laid := [("unicode.White_Space", laid_unicode_White_Space), ("strings.asciiSpace", laid_strings_asciiSpace)] }
def UnwindSaysSaid : Prop := unwindSaysRow.holds Tryz.pinned (OpenSpec.ofChange unwindSaysSpec)

/-- ITS FALSE NEIGHBOUR: 'it returns false'. Refute it at one input. -/
def unwindSaysWrong : ChangeSpec := { name := "unwindSays", fn := fun _ => fun
  | [d1, d2, d3, d4] => { results := [.lit (.bool false)], args := [d1, d2, d3, d4] }
  | _ => none }
def UnwindSaysWrongFalsely : Prop := unwindSaysRow.holds Tryz.pinned (OpenSpec.ofChange unwindSaysWrong)

/-- 'backstitchkeep1.UnwindDeep': WHATEVER THE INPUT: true; the input reads as it did. -/
def unwindDeepSpec : ChangeSpec := { name := "unwindDeep", fn := fun _ => fun
  | [d1, d2, d3, d4] => { results := [.lit (.bool true)], args := [d1, d2, d3, d4] }
  | _ => none }
def unwindDeepRow : OpenClaim := { program := "ytjbkinmdcaegcaagreatdoor", sum := "6780e4cb09244ba5c44a3fa0d6fc1b8b9d8193a17a5f07c429096ef052cfa276", func := "backstitch/backstitchkeep1.UnwindDeep", spec := "unwindDeep", inPlace := ["math.Float64frombits"], unfollowed := true, recurses := true, named := ["strings.asciiSpace", "unicode.White_Space"], plainKeys := false, apart := false, laid := [("unicode.White_Space", laid_unicode_White_Space), ("strings.asciiSpace", laid_strings_asciiSpace)] }
def UnwindDeepSaid : Prop := unwindDeepRow.holds Tryz.pinned (OpenSpec.ofChange unwindDeepSpec)

/-- ITS FALSE NEIGHBOUR: 'it returns false'. Refute it at one input. -/
def unwindDeepWrong : ChangeSpec := { name := "unwindDeep", fn := fun _ => fun
  | [d1, d2, d3, d4] => { results := [.lit (.bool false)], args := [d1, d2, d3, d4] }
  | _ => none }
def UnwindDeepWrongFalsely : Prop := unwindDeepRow.holds Tryz.pinned (OpenSpec.ofChange unwindDeepWrong)

/-- 'backstitchlaw1.GenYields': WHATEVER THE INPUT: true; the input reads as it did. -/
def genYieldsSpec : ChangeSpec := { name := "genYields", fn := fun _ => fun
  | [d1, d2, d3, d4] => { results := [.lit (.bool true)], args := [d1, d2, d3, d4] }
  | _ => none }
def genYieldsRow : OpenClaim := { program := "ytjbkinmdcaegcaagreatdoor", sum := "6780e4cb09244ba5c44a3fa0d6fc1b8b9d8193a17a5f07c429096ef052cfa276", func := "backstitch/backstitchlaw1.GenYields", spec := "genYields", inPlace := ["math.Float64frombits"], unfollowed := true, recurses := true, named := ["strings.asciiSpace", "unicode.White_Space"], plainKeys := false, apart := false, laid := [("unicode.White_Space", laid_unicode_White_Space), ("strings.asciiSpace", laid_strings_asciiSpace)] }
def GenYieldsSaid : Prop := genYieldsRow.holds Tryz.pinned (OpenSpec.ofChange genYieldsSpec)

/-- ITS FALSE NEIGHBOUR: 'it returns false'. Refute it at one input. -/
def genYieldsWrong : ChangeSpec := { name := "genYields", fn := fun _ => fun
  | [d1, d2, d3, d4] => { results := [.lit (.bool false)], args := [d1, d2, d3, d4] }
  | _ => none }
def GenYieldsWrongFalsely : Prop := genYieldsRow.holds Tryz.pinned (OpenSpec.ofChange genYieldsWrong)

/-- 'backstitchlaw1.GenResumes': WHATEVER THE INPUT: true; the input reads as it did. -/
def genResumesSpec : ChangeSpec := { name := "genResumes", fn := fun _ => fun
  | [d1, d2, d3, d4, d5, d6] => { results := [.lit (.bool true)], args := [d1, d2, d3, d4, d5, d6] }
  | _ => none }
def genResumesRow : OpenClaim := { program := "ytjbkinmdcaegcaagreatdoor", sum := "6780e4cb09244ba5c44a3fa0d6fc1b8b9d8193a17a5f07c429096ef052cfa276", func := "backstitch/backstitchlaw1.GenResumes", spec := "genResumes", inPlace := ["math.Float64frombits"], unfollowed := true, recurses := true, named := ["strings.asciiSpace", "unicode.White_Space"], plainKeys := false, apart := false, laid := [("unicode.White_Space", laid_unicode_White_Space), ("strings.asciiSpace", laid_strings_asciiSpace)] }
def GenResumesSaid : Prop := genResumesRow.holds Tryz.pinned (OpenSpec.ofChange genResumesSpec)

/-- ITS FALSE NEIGHBOUR: 'it returns false'. Refute it at one input. -/
def genResumesWrong : ChangeSpec := { name := "genResumes", fn := fun _ => fun
  | [d1, d2, d3, d4, d5, d6] => { results := [.lit (.bool false)], args := [d1, d2, d3, d4, d5, d6] }
  | _ => none }
def GenResumesWrongFalsely : Prop := genResumesRow.holds Tryz.pinned (OpenSpec.ofChange genResumesWrong)

/-- 'backstitchkeep1.UnwindStays': WHATEVER THE INPUT: true; the input reads as it did. -/
def unwindStaysSpec : ChangeSpec := { name := "unwindStays", fn := fun _ => fun
  | [d1, d2, d3, d4] => { results := [.lit (.bool true)], args := [d1, d2, d3, d4] }
  | _ => none }
def unwindStaysRow : OpenClaim := { program := "ytjbkinmdcaegcaagreatdoor", sum := "6780e4cb09244ba5c44a3fa0d6fc1b8b9d8193a17a5f07c429096ef052cfa276", func := "backstitch/backstitchkeep1.UnwindStays", spec := "unwindStays", inPlace := ["math.Float64frombits"], unfollowed := true, recurses := true, named := ["strings.asciiSpace", "unicode.White_Space"], plainKeys := false, apart := false, laid := [("unicode.White_Space", laid_unicode_White_Space), ("strings.asciiSpace", laid_strings_asciiSpace)] }
def UnwindStaysSaid : Prop := unwindStaysRow.holds Tryz.pinned (OpenSpec.ofChange unwindStaysSpec)

/-- ITS FALSE NEIGHBOUR: 'it returns false'. Refute it at one input. -/
def unwindStaysWrong : ChangeSpec := { name := "unwindStays", fn := fun _ => fun
  | [d1, d2, d3, d4] => { results := [.lit (.bool false)], args := [d1, d2, d3, d4] }
  | _ => none }
def UnwindStaysWrongFalsely : Prop := unwindStaysRow.holds Tryz.pinned (OpenSpec.ofChange unwindStaysWrong)

/-- 'backstitchkeep1.ReachMore': WHATEVER THE INPUT: true; the input reads as it did. -/
def reachMoreSpec : ChangeSpec := { name := "reachMore", fn := fun _ => fun
  | [d1, d2, d3] => { results := [.lit (.bool true)], args := [d1, d2, d3] }
  | _ => none }
def reachMoreRow : OpenClaim := { program := "ytjbkinmdcaegcaagreatdoor", sum := "6780e4cb09244ba5c44a3fa0d6fc1b8b9d8193a17a5f07c429096ef052cfa276", func := "backstitch/backstitchkeep1.ReachMore", spec := "reachMore", inPlace := ["math.Float64frombits"], unfollowed := true, recurses := true, named := ["strings.asciiSpace", "unicode.White_Space"], plainKeys := false, apart := false, laid := [("unicode.White_Space", laid_unicode_White_Space), ("strings.asciiSpace", laid_strings_asciiSpace)] }
def ReachMoreSaid : Prop := reachMoreRow.holds Tryz.pinned (OpenSpec.ofChange reachMoreSpec)

/-- ITS FALSE NEIGHBOUR: 'it returns false'. Refute it at one input. -/
def reachMoreWrong : ChangeSpec := { name := "reachMore", fn := fun _ => fun
  | [d1, d2, d3] => { results := [.lit (.bool false)], args := [d1, d2, d3] }
  | _ => none }
def ReachMoreWrongFalsely : Prop := reachMoreRow.holds Tryz.pinned (OpenSpec.ofChange reachMoreWrong)

/-- 'backstitchkeep1.ReachKeys': WHATEVER THE INPUT: true; the input reads as it did. -/
def reachKeysSpec : ChangeSpec := { name := "reachKeys", fn := fun _ => fun
  | [d1, d2] => { results := [.lit (.bool true)], args := [d1, d2] }
  | _ => none }
def reachKeysRow : OpenClaim := { program := "ytjbkinmdcaegcaagreatdoor", sum := "6780e4cb09244ba5c44a3fa0d6fc1b8b9d8193a17a5f07c429096ef052cfa276", func := "backstitch/backstitchkeep1.ReachKeys", spec := "reachKeys", inPlace := ["math.Float64frombits"], unfollowed := true, recurses := true, named := ["strings.asciiSpace", "unicode.White_Space"], plainKeys := false, apart := false, laid := [("unicode.White_Space", laid_unicode_White_Space), ("strings.asciiSpace", laid_strings_asciiSpace)] }
def ReachKeysSaid : Prop := reachKeysRow.holds Tryz.pinned (OpenSpec.ofChange reachKeysSpec)

/-- ITS FALSE NEIGHBOUR: 'it returns false'. Refute it at one input. -/
def reachKeysWrong : ChangeSpec := { name := "reachKeys", fn := fun _ => fun
  | [d1, d2] => { results := [.lit (.bool false)], args := [d1, d2] }
  | _ => none }
def ReachKeysWrongFalsely : Prop := reachKeysRow.holds Tryz.pinned (OpenSpec.ofChange reachKeysWrong)

/-- 'backstitchkeep1.ReachAgain': WHATEVER THE INPUT: true; the input reads as it did. -/
def reachAgainSpec : ChangeSpec := { name := "reachAgain", fn := fun _ => fun
  | [d1, d2] => { results := [.lit (.bool true)], args := [d1, d2] }
  | _ => none }
def reachAgainRow : OpenClaim := { program := "ytjbkinmdcaegcaagreatdoor", sum := "6780e4cb09244ba5c44a3fa0d6fc1b8b9d8193a17a5f07c429096ef052cfa276", func := "backstitch/backstitchkeep1.ReachAgain", spec := "reachAgain", inPlace := ["math.Float64frombits"], unfollowed := true, recurses := true, named := ["strings.asciiSpace", "unicode.White_Space"], plainKeys := false, apart := false, laid := [("unicode.White_Space", laid_unicode_White_Space), ("strings.asciiSpace", laid_strings_asciiSpace)] }
def ReachAgainSaid : Prop := reachAgainRow.holds Tryz.pinned (OpenSpec.ofChange reachAgainSpec)

/-- ITS FALSE NEIGHBOUR: 'it returns false'. Refute it at one input. -/
def reachAgainWrong : ChangeSpec := { name := "reachAgain", fn := fun _ => fun
  | [d1, d2] => { results := [.lit (.bool false)], args := [d1, d2] }
  | _ => none }
def ReachAgainWrongFalsely : Prop := reachAgainRow.holds Tryz.pinned (OpenSpec.ofChange reachAgainWrong)

/- THE SECOND FORM. 'bulk': how many values and letters a reading holds, each counted each time it is reached (what is shared counts as often as it is met; a slice's spare places count too). A statement '..UptoSaid' is the law's where the arguments, and the package variables that the reading takes, are together of bulk at most 1048576: NARROWER than '..Said'. Prove '..Said' where nothing that the law and all that it calls make is longer than what came in: it says more and counts as full. Else prove '..UptoSaid'. A law counts once. -/
mutual
def uptoBulk {H : Type} : DataW H → Nat
  | .lit (.string bytes) => bytes.length + 1
  | .lit _ => 1
  | .nil => 1
  | .ptr d => uptoBulk d + 1
  | .slice elems spare => uptoBulkAll elems + uptoBulkAll spare + 1
  | .agg parts => uptoBulkAll parts + 1
  | .iface _ d => uptoBulk d + 1
  | .map entries => uptoBulkEntries entries + 1
  | .held _ => 1
def uptoBulkAll {H : Type} : List (DataW H) → Nat
  | [] => 0
  | d :: r => uptoBulk d + uptoBulkAll r
def uptoBulkEntries {H : Type} : List (Lit × DataW H) → Nat
  | [] => 0
  | x :: r => uptoBulkEntry x + uptoBulkEntries r
def uptoBulkEntry {H : Type} : Lit × DataW H → Nat
  | (.string bytes, d) => bytes.length + uptoBulk d + 1
  | (_, d) => uptoBulk d + 1
 end
def uptoSmall : (H : Type) → List (DataW H) → Bool := fun _ ds => decide (uptoBulkAll ds ≤ 1048576)
def OpenSpec.upto (s : _root_.Go.ChangeSpec) : _root_.Go.OpenSpec := { _root_.Go.OpenSpec.ofChange s with cond := some uptoSmall }

/-- 'backstitchkeep1.StateStart', WHERE WHAT IT READS IS OF BULK AT MOST 1048576: true; the input reads as it did. -/
def stateStartUptoRow : OpenClaim := { program := "ytjbkinmdcaegcaagreatdoor", sum := "6780e4cb09244ba5c44a3fa0d6fc1b8b9d8193a17a5f07c429096ef052cfa276", func := "backstitch/backstitchkeep1.StateStart", spec := "stateStart", inPlace := ["math.Float64frombits"], unfollowed := true, recurses := true, named := ["strings.asciiSpace", "unicode.White_Space"], plainKeys := false, apart := false, laid := [("unicode.White_Space", laid_unicode_White_Space), ("strings.asciiSpace", laid_strings_asciiSpace)], narrowed := true }
def StateStartUptoSaid : Prop := stateStartUptoRow.holds Tryz.pinned (OpenSpec.upto stateStartSpec)

/-- 'backstitchkeep1.StateMore', WHERE WHAT IT READS IS OF BULK AT MOST 1048576: true; the input reads as it did. -/
def stateMoreUptoRow : OpenClaim := { program := "ytjbkinmdcaegcaagreatdoor", sum := "6780e4cb09244ba5c44a3fa0d6fc1b8b9d8193a17a5f07c429096ef052cfa276", func := "backstitch/backstitchkeep1.StateMore", spec := "stateMore", inPlace := ["math.Float64frombits"], unfollowed := true, recurses := true, named := ["strings.asciiSpace", "unicode.White_Space"], plainKeys := false, apart := false, laid := [("unicode.White_Space", laid_unicode_White_Space), ("strings.asciiSpace", laid_strings_asciiSpace)], narrowed := true }
def StateMoreUptoSaid : Prop := stateMoreUptoRow.holds Tryz.pinned (OpenSpec.upto stateMoreSpec)

/-- 'backstitchkeep1.StateTurned', WHERE WHAT IT READS IS OF BULK AT MOST 1048576: true; the input reads as it did. -/
def stateTurnedUptoRow : OpenClaim := { program := "ytjbkinmdcaegcaagreatdoor", sum := "6780e4cb09244ba5c44a3fa0d6fc1b8b9d8193a17a5f07c429096ef052cfa276", func := "backstitch/backstitchkeep1.StateTurned", spec := "stateTurned", inPlace := ["math.Float64frombits"], unfollowed := true, recurses := true, named := ["strings.asciiSpace", "unicode.White_Space"], plainKeys := false, apart := false, laid := [("unicode.White_Space", laid_unicode_White_Space), ("strings.asciiSpace", laid_strings_asciiSpace)], narrowed := true }
def StateTurnedUptoSaid : Prop := stateTurnedUptoRow.holds Tryz.pinned (OpenSpec.upto stateTurnedSpec)

/-- 'backstitchlaw1.StateSays', WHERE WHAT IT READS IS OF BULK AT MOST 1048576: true; the input reads as it did. -/
def stateSaysUptoRow : OpenClaim := { program := "ytjbkinmdcaegcaagreatdoor", sum := "6780e4cb09244ba5c44a3fa0d6fc1b8b9d8193a17a5f07c429096ef052cfa276", func := "backstitch/backstitchlaw1.StateSays", spec := "stateSays", inPlace := ["math.Float64frombits"], unfollowed := true, recurses := true, named := ["strings.asciiSpace", "unicode.White_Space"], plainKeys := false, apart := false, laid := [("unicode.White_Space", laid_unicode_White_Space), ("strings.asciiSpace", laid_strings_asciiSpace)], narrowed := true }
def StateSaysUptoSaid : Prop := stateSaysUptoRow.holds Tryz.pinned (OpenSpec.upto stateSaysSpec)

/-- 'backstitchlaw1.UnwindSays', WHERE WHAT IT READS IS OF BULK AT MOST 1048576: true; the input reads as it did. -/
def unwindSaysUptoRow : OpenClaim := { program := "ytjbkinmdcaegcaagreatdoor", sum := "6780e4cb09244ba5c44a3fa0d6fc1b8b9d8193a17a5f07c429096ef052cfa276", func := "backstitch/backstitchlaw1.UnwindSays", spec := "unwindSays", inPlace := ["math.Float64frombits"], unfollowed := true, recurses := true, named := ["strings.asciiSpace", "unicode.White_Space"], plainKeys := false, apart := false, laid := [("unicode.White_Space", laid_unicode_White_Space), ("strings.asciiSpace", laid_strings_asciiSpace)], narrowed := true }
def UnwindSaysUptoSaid : Prop := unwindSaysUptoRow.holds Tryz.pinned (OpenSpec.upto unwindSaysSpec)

/-- 'backstitchkeep1.UnwindDeep', WHERE WHAT IT READS IS OF BULK AT MOST 1048576: true; the input reads as it did. -/
def unwindDeepUptoRow : OpenClaim := { program := "ytjbkinmdcaegcaagreatdoor", sum := "6780e4cb09244ba5c44a3fa0d6fc1b8b9d8193a17a5f07c429096ef052cfa276", func := "backstitch/backstitchkeep1.UnwindDeep", spec := "unwindDeep", inPlace := ["math.Float64frombits"], unfollowed := true, recurses := true, named := ["strings.asciiSpace", "unicode.White_Space"], plainKeys := false, apart := false, laid := [("unicode.White_Space", laid_unicode_White_Space), ("strings.asciiSpace", laid_strings_asciiSpace)], narrowed := true }
def UnwindDeepUptoSaid : Prop := unwindDeepUptoRow.holds Tryz.pinned (OpenSpec.upto unwindDeepSpec)

/-- 'backstitchlaw1.GenYields', WHERE WHAT IT READS IS OF BULK AT MOST 1048576: true; the input reads as it did. -/
def genYieldsUptoRow : OpenClaim := { program := "ytjbkinmdcaegcaagreatdoor", sum := "6780e4cb09244ba5c44a3fa0d6fc1b8b9d8193a17a5f07c429096ef052cfa276", func := "backstitch/backstitchlaw1.GenYields", spec := "genYields", inPlace := ["math.Float64frombits"], unfollowed := true, recurses := true, named := ["strings.asciiSpace", "unicode.White_Space"], plainKeys := false, apart := false, laid := [("unicode.White_Space", laid_unicode_White_Space), ("strings.asciiSpace", laid_strings_asciiSpace)], narrowed := true }
def GenYieldsUptoSaid : Prop := genYieldsUptoRow.holds Tryz.pinned (OpenSpec.upto genYieldsSpec)

/-- 'backstitchlaw1.GenResumes', WHERE WHAT IT READS IS OF BULK AT MOST 1048576: true; the input reads as it did. -/
def genResumesUptoRow : OpenClaim := { program := "ytjbkinmdcaegcaagreatdoor", sum := "6780e4cb09244ba5c44a3fa0d6fc1b8b9d8193a17a5f07c429096ef052cfa276", func := "backstitch/backstitchlaw1.GenResumes", spec := "genResumes", inPlace := ["math.Float64frombits"], unfollowed := true, recurses := true, named := ["strings.asciiSpace", "unicode.White_Space"], plainKeys := false, apart := false, laid := [("unicode.White_Space", laid_unicode_White_Space), ("strings.asciiSpace", laid_strings_asciiSpace)], narrowed := true }
def GenResumesUptoSaid : Prop := genResumesUptoRow.holds Tryz.pinned (OpenSpec.upto genResumesSpec)

/-- 'backstitchkeep1.UnwindStays', WHERE WHAT IT READS IS OF BULK AT MOST 1048576: true; the input reads as it did. -/
def unwindStaysUptoRow : OpenClaim := { program := "ytjbkinmdcaegcaagreatdoor", sum := "6780e4cb09244ba5c44a3fa0d6fc1b8b9d8193a17a5f07c429096ef052cfa276", func := "backstitch/backstitchkeep1.UnwindStays", spec := "unwindStays", inPlace := ["math.Float64frombits"], unfollowed := true, recurses := true, named := ["strings.asciiSpace", "unicode.White_Space"], plainKeys := false, apart := false, laid := [("unicode.White_Space", laid_unicode_White_Space), ("strings.asciiSpace", laid_strings_asciiSpace)], narrowed := true }
def UnwindStaysUptoSaid : Prop := unwindStaysUptoRow.holds Tryz.pinned (OpenSpec.upto unwindStaysSpec)

/-- 'backstitchkeep1.ReachMore', WHERE WHAT IT READS IS OF BULK AT MOST 1048576: true; the input reads as it did. -/
def reachMoreUptoRow : OpenClaim := { program := "ytjbkinmdcaegcaagreatdoor", sum := "6780e4cb09244ba5c44a3fa0d6fc1b8b9d8193a17a5f07c429096ef052cfa276", func := "backstitch/backstitchkeep1.ReachMore", spec := "reachMore", inPlace := ["math.Float64frombits"], unfollowed := true, recurses := true, named := ["strings.asciiSpace", "unicode.White_Space"], plainKeys := false, apart := false, laid := [("unicode.White_Space", laid_unicode_White_Space), ("strings.asciiSpace", laid_strings_asciiSpace)], narrowed := true }
def ReachMoreUptoSaid : Prop := reachMoreUptoRow.holds Tryz.pinned (OpenSpec.upto reachMoreSpec)

/-- 'backstitchkeep1.ReachKeys', WHERE WHAT IT READS IS OF BULK AT MOST 1048576: true; the input reads as it did. -/
def reachKeysUptoRow : OpenClaim := { program := "ytjbkinmdcaegcaagreatdoor", sum := "6780e4cb09244ba5c44a3fa0d6fc1b8b9d8193a17a5f07c429096ef052cfa276", func := "backstitch/backstitchkeep1.ReachKeys", spec := "reachKeys", inPlace := ["math.Float64frombits"], unfollowed := true, recurses := true, named := ["strings.asciiSpace", "unicode.White_Space"], plainKeys := false, apart := false, laid := [("unicode.White_Space", laid_unicode_White_Space), ("strings.asciiSpace", laid_strings_asciiSpace)], narrowed := true }
def ReachKeysUptoSaid : Prop := reachKeysUptoRow.holds Tryz.pinned (OpenSpec.upto reachKeysSpec)

/-- 'backstitchkeep1.ReachAgain', WHERE WHAT IT READS IS OF BULK AT MOST 1048576: true; the input reads as it did. -/
def reachAgainUptoRow : OpenClaim := { program := "ytjbkinmdcaegcaagreatdoor", sum := "6780e4cb09244ba5c44a3fa0d6fc1b8b9d8193a17a5f07c429096ef052cfa276", func := "backstitch/backstitchkeep1.ReachAgain", spec := "reachAgain", inPlace := ["math.Float64frombits"], unfollowed := true, recurses := true, named := ["strings.asciiSpace", "unicode.White_Space"], plainKeys := false, apart := false, laid := [("unicode.White_Space", laid_unicode_White_Space), ("strings.asciiSpace", laid_strings_asciiSpace)], narrowed := true }
def ReachAgainUptoSaid : Prop := reachAgainUptoRow.holds Tryz.pinned (OpenSpec.upto reachAgainSpec)

end Rows
end Go.Proofs.YtjbkinmdcaegcaaGreatDoor
