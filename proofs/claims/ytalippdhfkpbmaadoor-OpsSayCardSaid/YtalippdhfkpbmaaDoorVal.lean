/- Equality of two values of the machine: what the operation gives. -/
import Derived.Test.YtalippdhfkpbmaaDoorBase
import Derived.Test.YtalippdhfkpbmaaDoorRows
namespace Go.Proofs.YtalippdhfkpbmaaDoor
open Go.RowKit
theorem run_val_eq (a b c d : Int) (w : World) :
    Sem.run Tryd.prog (binOp .eql 23 (.agg #[.int .i64 a, .int .i64 b]) (.agg #[.int .i64 c, .int .i64 d])) w = .ok (.bool (decide (a = c ∧ b = d))) w := by
  simp [go_sem]
  by_cases h1 : a = c <;> by_cases h2 : b = d <;> simp [h1, h2]
theorem run_val_neq (a b c d : Int) (w : World) :
    Sem.run Tryd.prog (binOp .neq 23 (.agg #[.int .i64 a, .int .i64 b]) (.agg #[.int .i64 c, .int .i64 d])) w = .ok (.bool (!decide (a = c ∧ b = d))) w := by
  simp [go_sem]
  by_cases h1 : a = c <;> by_cases h2 : b = d <;> simp [h1, h2]
attribute [go_sem ↓] run_val_eq run_val_neq
end Go.Proofs.YtalippdhfkpbmaaDoor
