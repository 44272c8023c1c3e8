/- Equality of two shapes: what the operation gives. -/
import Derived.Test.YtalippdhfkpbmaaBase
import Derived.Test.YtalippdhfkpbmaaRows
namespace Go.Proofs.Ytalippdhfkpbmaa
open Go.RowKit
theorem run_shp_eq (a b c d : Int) (w : World) :
    Sem.run Try.prog (binOp .eql 29 (.agg #[.int .i64 a, .int .i64 b]) (.agg #[.int .i64 c, .int .i64 d])) w = .ok (.bool (decide (a = c ∧ b = d))) w := by
  simp [go_sem]
  by_cases h1 : a = c <;> by_cases h2 : b = d <;> simp [h1, h2]
theorem run_shp_neq (a b c d : Int) (w : World) :
    Sem.run Try.prog (binOp .neq 29 (.agg #[.int .i64 a, .int .i64 b]) (.agg #[.int .i64 c, .int .i64 d])) w = .ok (.bool (!decide (a = c ∧ b = d))) w := by
  simp [go_sem]
  by_cases h1 : a = c <;> by_cases h2 : b = d <;> simp [h1, h2]
attribute [go_sem ↓] run_shp_eq run_shp_neq
end Go.Proofs.Ytalippdhfkpbmaa
