/- What the operators compute, in plain numbers: no program in sight. -/
import Derived.WalkKit
import Derived.ProofKit
import Ieee.Arith
namespace Go.Proofs.YtalippdhfkpbmaaDoor
open Go.RowKit
/-- The bits of the float that a value's number stands for. -/
def flt (n : Int) : Nat := (IntKind.u64.wrap n).toNat
def same (x y : Nat) : Bool := Ieee.double.order x y == some .eq
def less (x y : Nat) : Bool := Ieee.double.order x y == some .lt
def theNaN : Int := 9221120237041090561
/-- The number of a float: the one NaN, or its bits. -/
def ofN (b : Nat) : Int := if same b b then wrap64 b else theNaN
def bit (b : Bool) : Int := if b then 1 else 0
def rightB (k n : Int) : Bool :=
  if k = 0 then n == 0 else if k = 1 then decide (0 ≤ n) && decide (n ≤ 1) else if k = 2 then decide (-2147483648 ≤ n) && decide (n ≤ 2147483647)
  else if k = 3 then same (flt n) (flt n) || n == theNaN else if k = 4 ∨ k = 5 then decide (0 ≤ n) else if k = 6 then decide (0 ≤ n) && decide (n ≤ 15) else false
def takK (k n : Int) : Int := if rightB k n then k else 0
def takN (k n : Int) : Int := if rightB k n then n else 0
def truthB (k n : Int) : Bool := decide (takK k n ≠ 0) && !(decide (takK k n = 1) && decide (takN k n = 0))
/-- a value's kind and number, and what is thrown -/
abbrev VT := Int × Int × Int
def wholeS (n : Int) : VT := if -2147483648 ≤ n ∧ n ≤ 2147483647 then (2, n, -1) else (0, 0, 1)
def orderedI (op a b : Int) : VT := if op = 9 then (1, bit (decide (a < b)), -1) else if op = 10 then (1, bit (decide (a ≤ b)), -1) else (0, 0, 0)
def orderedF (op : Int) (x y : Nat) : VT := if op = 9 then (1, bit (less x y), -1) else if op = 10 then (1, bit (less x y || same x y), -1) else (0, 0, 0)
def wholesS (op a b : Int) : VT :=
  if op = 3 then wholeS (a + b) else if op = 4 then wholeS (a - b) else if op = 5 then wholeS (wrap64 (a * b))
  else if op = 6 ∨ op = 7 then (if b = 0 then (0, 0, 2) else if op = 6 then wholeS (wrap64 (a.tdiv b)) else wholeS (a.tmod b)) else orderedI op a b
def resF (r : Option Nat) : VT := (3, (match r with | some b => ofN b | none => theNaN), -1)
def floatsS (op : Int) (x y : Nat) : VT :=
  if op = 3 then resF (Ieee.double.add x y) else if op = 4 then resF (Ieee.double.sub x y) else if op = 5 then resF (Ieee.double.mul x y) else if op = 6 then resF (Ieee.double.div x y)
  else if op = 8 then (1, bit (same x y), -1) else orderedF op x y
def unaryS (op k n : Int) : VT :=
  if op = 11 then (1, bit (!truthB (takK k n) (takN k n)), -1) else if op = 12 ∧ takK k n = 2 then wholeS (-takN k n)
  else if op = 12 ∧ takK k n = 3 then (3, ofN (Op.negFloat .f64 (flt (takN k n))), -1) else (0, 0, 0)
def binaryT (op ak an bk bn : Int) : VT :=
  if ak = 3 ∧ bk = 3 then floatsS op (flt an) (flt bn) else if op = 8 then (1, bit (decide (ak = bk ∧ an = bn)), -1)
  else if ak = 2 ∧ bk = 2 then wholesS op an bn else (0, 0, 0)
def binaryS (op ak an bk bn : Int) : VT := binaryT op (takK ak an) (takN ak an) (takK bk bn) (takN bk bn)
end Go.Proofs.YtalippdhfkpbmaaDoor
