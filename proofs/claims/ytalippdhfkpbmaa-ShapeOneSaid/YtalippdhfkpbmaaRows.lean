/-
  No cell of these rows narrows 'for every input' (looked for: loops, veiled, ifaces, maps, wideKeys, modest, calm, conditions, laid).
  DERIVED. THE GIVEN ROWS OF THIS SEAT. 8 by the template 'for every input the law returns true; each argument reads behind the call as it read before'; 0 by the template 'total and deterministic' (their statements: YtalippdhfkpbmaaTotals.lean).
  GIVEN WITH THE SEED: the statements are not yours to turn. If you find one false, say at which input.
  Laid BY PROGRAM, IN A SANDBOX (cutbox-rows.mjs): the forced cells as the released guide's own fill.sh prints them over the translation 2b9fada8f6daca7c… (all of the seat's roots in one cut). By AI agents, Wed Nov 11 2026. No macro, syntax, notation, axiom, sorry.
-/
import Derived.Test.YtalippdhfkpbmaaChecked
import GoSem.Claim
import GoSem.ClaimJoined
import GoSem.ClaimMapViews
import Derived.JoinedTies
import Derived.KernelRfl
namespace Go.Proofs.Ytalippdhfkpbmaa
/- THE CELL 'sum', in the pinned program and in every row, IS THE sha256 OF THE DUMP (.gsa) THAT YtalippdhfkpbmaaProg.lean LOADS. Nothing in Lean hashes anything: it is a label: what it is worth is what the hold of that sum in a sandbox is worth. -/
noncomputable def Try.pinned : Pinned := { name := "ytalippdhfkpbmaa", sum := "2b9fada8f6daca7c4a7808f4ffd1ac45f267ae57564d3414aba3588325105634", checked := Try.checked }
namespace Rows
def none {H : Type} : Left H := { results := [], args := [] }

/-- 'backstitchlaw1.ShapeSays': WHATEVER THE INPUT: true; the input reads as it did. -/
def shapeSaysSpec : ChangeSpec := { name := "shapeSays", fn := fun _ => fun
  | [d1, d2, d3] => { results := [.lit (.bool true)], args := [d1, d2, d3] }
  | _ => none }
def shapeSaysRow : OpenClaim := { program := "ytalippdhfkpbmaa", sum := "2b9fada8f6daca7c4a7808f4ffd1ac45f267ae57564d3414aba3588325105634", func := "backstitch/backstitchlaw1.ShapeSays", spec := "shapeSays", recurses := true, plainKeys := false, apart := false }
def ShapeSaysSaid : Prop := shapeSaysRow.holds Try.pinned (OpenSpec.ofChange shapeSaysSpec)

/-- ITS FALSE NEIGHBOUR: 'it returns false'. Refute it at one input. -/
def shapeSaysWrong : ChangeSpec := { name := "shapeSays", fn := fun _ => fun
  | [d1, d2, d3] => { results := [.lit (.bool false)], args := [d1, d2, d3] }
  | _ => none }
def ShapeSaysWrongFalsely : Prop := shapeSaysRow.holds Try.pinned (OpenSpec.ofChange shapeSaysWrong)

/-- 'backstitchkeep1.ShapeGrows': WHATEVER THE INPUT: true; the input reads as it did. -/
def shapeGrowsSpec : ChangeSpec := { name := "shapeGrows", fn := fun _ => fun
  | [d1, d2, d3, d4] => { results := [.lit (.bool true)], args := [d1, d2, d3, d4] }
  | _ => none }
def shapeGrowsRow : OpenClaim := { program := "ytalippdhfkpbmaa", sum := "2b9fada8f6daca7c4a7808f4ffd1ac45f267ae57564d3414aba3588325105634", func := "backstitch/backstitchkeep1.ShapeGrows", spec := "shapeGrows", plainKeys := false, apart := false }
def ShapeGrowsSaid : Prop := shapeGrowsRow.holds Try.pinned (OpenSpec.ofChange shapeGrowsSpec)

/-- ITS FALSE NEIGHBOUR: 'it returns false'. Refute it at one input. -/
def shapeGrowsWrong : ChangeSpec := { name := "shapeGrows", fn := fun _ => fun
  | [d1, d2, d3, d4] => { results := [.lit (.bool false)], args := [d1, d2, d3, d4] }
  | _ => none }
def ShapeGrowsWrongFalsely : Prop := shapeGrowsRow.holds Try.pinned (OpenSpec.ofChange shapeGrowsWrong)

/-- 'backstitchkeep1.ShapeOne': WHATEVER THE INPUT: true; the input reads as it did. -/
def shapeOneSpec : ChangeSpec := { name := "shapeOne", fn := fun _ => fun
  | [d1, d2] => { results := [.lit (.bool true)], args := [d1, d2] }
  | _ => none }
def shapeOneRow : OpenClaim := { program := "ytalippdhfkpbmaa", sum := "2b9fada8f6daca7c4a7808f4ffd1ac45f267ae57564d3414aba3588325105634", func := "backstitch/backstitchkeep1.ShapeOne", spec := "shapeOne", plainKeys := false, apart := false }
def ShapeOneSaid : Prop := shapeOneRow.holds Try.pinned (OpenSpec.ofChange shapeOneSpec)

/-- ITS FALSE NEIGHBOUR: 'it returns false'. Refute it at one input. -/
def shapeOneWrong : ChangeSpec := { name := "shapeOne", fn := fun _ => fun
  | [d1, d2] => { results := [.lit (.bool false)], args := [d1, d2] }
  | _ => none }
def ShapeOneWrongFalsely : Prop := shapeOneRow.holds Try.pinned (OpenSpec.ofChange shapeOneWrong)

/-- 'backstitchkeep1.ShapeSlots': WHATEVER THE INPUT: true; the input reads as it did. -/
def shapeSlotsSpec : ChangeSpec := { name := "shapeSlots", fn := fun _ => fun
  | [d1, d2, d3] => { results := [.lit (.bool true)], args := [d1, d2, d3] }
  | _ => none }
def shapeSlotsRow : OpenClaim := { program := "ytalippdhfkpbmaa", sum := "2b9fada8f6daca7c4a7808f4ffd1ac45f267ae57564d3414aba3588325105634", func := "backstitch/backstitchkeep1.ShapeSlots", spec := "shapeSlots", plainKeys := false, apart := false }
def ShapeSlotsSaid : Prop := shapeSlotsRow.holds Try.pinned (OpenSpec.ofChange shapeSlotsSpec)

/-- ITS FALSE NEIGHBOUR: 'it returns false'. Refute it at one input. -/
def shapeSlotsWrong : ChangeSpec := { name := "shapeSlots", fn := fun _ => fun
  | [d1, d2, d3] => { results := [.lit (.bool false)], args := [d1, d2, d3] }
  | _ => none }
def ShapeSlotsWrongFalsely : Prop := shapeSlotsRow.holds Try.pinned (OpenSpec.ofChange shapeSlotsWrong)

/-- 'backstitchkeep1.OpsRing': WHATEVER THE INPUT: true; the input reads as it did. -/
def opsRingSpec : ChangeSpec := { name := "opsRing", fn := fun _ => fun
  | [d1, d2, d3] => { results := [.lit (.bool true)], args := [d1, d2, d3] }
  | _ => none }
def opsRingRow : OpenClaim := { program := "ytalippdhfkpbmaa", sum := "2b9fada8f6daca7c4a7808f4ffd1ac45f267ae57564d3414aba3588325105634", func := "backstitch/backstitchkeep1.OpsRing", spec := "opsRing", inPlace := ["math.Float64frombits", "math.Float64bits"], plainKeys := false, apart := false }
def OpsRingSaid : Prop := opsRingRow.holds Try.pinned (OpenSpec.ofChange opsRingSpec)

/-- ITS FALSE NEIGHBOUR: 'it returns false'. Refute it at one input. -/
def opsRingWrong : ChangeSpec := { name := "opsRing", fn := fun _ => fun
  | [d1, d2, d3] => { results := [.lit (.bool false)], args := [d1, d2, d3] }
  | _ => none }
def OpsRingWrongFalsely : Prop := opsRingRow.holds Try.pinned (OpenSpec.ofChange opsRingWrong)

/-- 'backstitchkeep1.OpsDivide': WHATEVER THE INPUT: true; the input reads as it did. -/
def opsDivideSpec : ChangeSpec := { name := "opsDivide", fn := fun _ => fun
  | [d1, d2] => { results := [.lit (.bool true)], args := [d1, d2] }
  | _ => none }
def opsDivideRow : OpenClaim := { program := "ytalippdhfkpbmaa", sum := "2b9fada8f6daca7c4a7808f4ffd1ac45f267ae57564d3414aba3588325105634", func := "backstitch/backstitchkeep1.OpsDivide", spec := "opsDivide", inPlace := ["math.Float64frombits", "math.Float64bits"], plainKeys := false, apart := false }
def OpsDivideSaid : Prop := opsDivideRow.holds Try.pinned (OpenSpec.ofChange opsDivideSpec)

/-- ITS FALSE NEIGHBOUR: 'it returns false'. Refute it at one input. -/
def opsDivideWrong : ChangeSpec := { name := "opsDivide", fn := fun _ => fun
  | [d1, d2] => { results := [.lit (.bool false)], args := [d1, d2] }
  | _ => none }
def OpsDivideWrongFalsely : Prop := opsDivideRow.holds Try.pinned (OpenSpec.ofChange opsDivideWrong)

/-- 'backstitchkeep1.OpsOrder': WHATEVER THE INPUT: true; the input reads as it did. -/
def opsOrderSpec : ChangeSpec := { name := "opsOrder", fn := fun _ => fun
  | [d1, d2] => { results := [.lit (.bool true)], args := [d1, d2] }
  | _ => none }
def opsOrderRow : OpenClaim := { program := "ytalippdhfkpbmaa", sum := "2b9fada8f6daca7c4a7808f4ffd1ac45f267ae57564d3414aba3588325105634", func := "backstitch/backstitchkeep1.OpsOrder", spec := "opsOrder", inPlace := ["math.Float64frombits", "math.Float64bits"], plainKeys := false, apart := false }
def OpsOrderSaid : Prop := opsOrderRow.holds Try.pinned (OpenSpec.ofChange opsOrderSpec)

/-- ITS FALSE NEIGHBOUR: 'it returns false'. Refute it at one input. -/
def opsOrderWrong : ChangeSpec := { name := "opsOrder", fn := fun _ => fun
  | [d1, d2] => { results := [.lit (.bool false)], args := [d1, d2] }
  | _ => none }
def OpsOrderWrongFalsely : Prop := opsOrderRow.holds Try.pinned (OpenSpec.ofChange opsOrderWrong)

/-- 'backstitchkeep1.OpsStay': WHATEVER THE INPUT: true; the input reads as it did. -/
def opsStaySpec : ChangeSpec := { name := "opsStay", fn := fun _ => fun
  | [d1, d2, d3] => { results := [.lit (.bool true)], args := [d1, d2, d3] }
  | _ => none }
def opsStayRow : OpenClaim := { program := "ytalippdhfkpbmaa", sum := "2b9fada8f6daca7c4a7808f4ffd1ac45f267ae57564d3414aba3588325105634", func := "backstitch/backstitchkeep1.OpsStay", spec := "opsStay", inPlace := ["math.Float64frombits", "math.Float64bits"], plainKeys := false, apart := false }
def OpsStaySaid : Prop := opsStayRow.holds Try.pinned (OpenSpec.ofChange opsStaySpec)

/-- ITS FALSE NEIGHBOUR: 'it returns false'. Refute it at one input. -/
def opsStayWrong : ChangeSpec := { name := "opsStay", fn := fun _ => fun
  | [d1, d2, d3] => { results := [.lit (.bool false)], args := [d1, d2, d3] }
  | _ => none }
def OpsStayWrongFalsely : Prop := opsStayRow.holds Try.pinned (OpenSpec.ofChange opsStayWrong)

/- THE SECOND FORM. 'bulk': how many values and letters a reading holds, each counted each time it is reached (what is shared counts as often as it is met; a slice's spare places count too). A statement '..UptoSaid' is the law's where the arguments, and the package variables that the reading takes, are together of bulk at most 1048576: NARROWER than '..Said'. Prove '..Said' where nothing that the law and all that it calls make is longer than what came in: it says more and counts as full. Else prove '..UptoSaid'. A law counts once. -/
mutual
def uptoBulk {H : Type} : DataW H → Nat
  | .lit (.string bytes) => bytes.length + 1
  | .lit _ => 1
  | .nil => 1
  | .ptr d => uptoBulk d + 1
  | .slice elems spare => uptoBulkAll elems + uptoBulkAll spare + 1
  | .agg parts => uptoBulkAll parts + 1
  | .iface _ d => uptoBulk d + 1
  | .map entries => uptoBulkEntries entries + 1
  | .held _ => 1
def uptoBulkAll {H : Type} : List (DataW H) → Nat
  | [] => 0
  | d :: r => uptoBulk d + uptoBulkAll r
def uptoBulkEntries {H : Type} : List (Lit × DataW H) → Nat
  | [] => 0
  | x :: r => uptoBulkEntry x + uptoBulkEntries r
def uptoBulkEntry {H : Type} : Lit × DataW H → Nat
  | (.string bytes, d) => bytes.length + uptoBulk d + 1
  | (_, d) => uptoBulk d + 1
 end
def uptoSmall : (H : Type) → List (DataW H) → Bool := fun _ ds => decide (uptoBulkAll ds ≤ 1048576)
def OpenSpec.upto (s : _root_.Go.ChangeSpec) : _root_.Go.OpenSpec := { _root_.Go.OpenSpec.ofChange s with cond := some uptoSmall }

/-- 'backstitchlaw1.ShapeSays', WHERE WHAT IT READS IS OF BULK AT MOST 1048576: true; the input reads as it did. -/
def shapeSaysUptoRow : OpenClaim := { program := "ytalippdhfkpbmaa", sum := "2b9fada8f6daca7c4a7808f4ffd1ac45f267ae57564d3414aba3588325105634", func := "backstitch/backstitchlaw1.ShapeSays", spec := "shapeSays", recurses := true, plainKeys := false, apart := false, narrowed := true }
def ShapeSaysUptoSaid : Prop := shapeSaysUptoRow.holds Try.pinned (OpenSpec.upto shapeSaysSpec)

/-- 'backstitchkeep1.ShapeGrows', WHERE WHAT IT READS IS OF BULK AT MOST 1048576: true; the input reads as it did. -/
def shapeGrowsUptoRow : OpenClaim := { program := "ytalippdhfkpbmaa", sum := "2b9fada8f6daca7c4a7808f4ffd1ac45f267ae57564d3414aba3588325105634", func := "backstitch/backstitchkeep1.ShapeGrows", spec := "shapeGrows", plainKeys := false, apart := false, narrowed := true }
def ShapeGrowsUptoSaid : Prop := shapeGrowsUptoRow.holds Try.pinned (OpenSpec.upto shapeGrowsSpec)

/-- 'backstitchkeep1.ShapeOne', WHERE WHAT IT READS IS OF BULK AT MOST 1048576: true; the input reads as it did. -/
def shapeOneUptoRow : OpenClaim := { program := "ytalippdhfkpbmaa", sum := "2b9fada8f6daca7c4a7808f4ffd1ac45f267ae57564d3414aba3588325105634", func := "backstitch/backstitchkeep1.ShapeOne", spec := "shapeOne", plainKeys := false, apart := false, narrowed := true }
def ShapeOneUptoSaid : Prop := shapeOneUptoRow.holds Try.pinned (OpenSpec.upto shapeOneSpec)

/-- 'backstitchkeep1.ShapeSlots', WHERE WHAT IT READS IS OF BULK AT MOST 1048576: true; the input reads as it did. -/
def shapeSlotsUptoRow : OpenClaim := { program := "ytalippdhfkpbmaa", sum := "2b9fada8f6daca7c4a7808f4ffd1ac45f267ae57564d3414aba3588325105634", func := "backstitch/backstitchkeep1.ShapeSlots", spec := "shapeSlots", plainKeys := false, apart := false, narrowed := true }
def ShapeSlotsUptoSaid : Prop := shapeSlotsUptoRow.holds Try.pinned (OpenSpec.upto shapeSlotsSpec)

/-- 'backstitchkeep1.OpsRing', WHERE WHAT IT READS IS OF BULK AT MOST 1048576: true; the input reads as it did. -/
def opsRingUptoRow : OpenClaim := { program := "ytalippdhfkpbmaa", sum := "2b9fada8f6daca7c4a7808f4ffd1ac45f267ae57564d3414aba3588325105634", func := "backstitch/backstitchkeep1.OpsRing", spec := "opsRing", inPlace := ["math.Float64frombits", "math.Float64bits"], plainKeys := false, apart := false, narrowed := true }
def OpsRingUptoSaid : Prop := opsRingUptoRow.holds Try.pinned (OpenSpec.upto opsRingSpec)

/-- 'backstitchkeep1.OpsDivide', WHERE WHAT IT READS IS OF BULK AT MOST 1048576: true; the input reads as it did. -/
def opsDivideUptoRow : OpenClaim := { program := "ytalippdhfkpbmaa", sum := "2b9fada8f6daca7c4a7808f4ffd1ac45f267ae57564d3414aba3588325105634", func := "backstitch/backstitchkeep1.OpsDivide", spec := "opsDivide", inPlace := ["math.Float64frombits", "math.Float64bits"], plainKeys := false, apart := false, narrowed := true }
def OpsDivideUptoSaid : Prop := opsDivideUptoRow.holds Try.pinned (OpenSpec.upto opsDivideSpec)

/-- 'backstitchkeep1.OpsOrder', WHERE WHAT IT READS IS OF BULK AT MOST 1048576: true; the input reads as it did. -/
def opsOrderUptoRow : OpenClaim := { program := "ytalippdhfkpbmaa", sum := "2b9fada8f6daca7c4a7808f4ffd1ac45f267ae57564d3414aba3588325105634", func := "backstitch/backstitchkeep1.OpsOrder", spec := "opsOrder", inPlace := ["math.Float64frombits", "math.Float64bits"], plainKeys := false, apart := false, narrowed := true }
def OpsOrderUptoSaid : Prop := opsOrderUptoRow.holds Try.pinned (OpenSpec.upto opsOrderSpec)

/-- 'backstitchkeep1.OpsStay', WHERE WHAT IT READS IS OF BULK AT MOST 1048576: true; the input reads as it did. -/
def opsStayUptoRow : OpenClaim := { program := "ytalippdhfkpbmaa", sum := "2b9fada8f6daca7c4a7808f4ffd1ac45f267ae57564d3414aba3588325105634", func := "backstitch/backstitchkeep1.OpsStay", spec := "opsStay", inPlace := ["math.Float64frombits", "math.Float64bits"], plainKeys := false, apart := false, narrowed := true }
def OpsStayUptoSaid : Prop := opsStayUptoRow.holds Try.pinned (OpenSpec.upto opsStaySpec)

end Rows
end Go.Proofs.Ytalippdhfkpbmaa
