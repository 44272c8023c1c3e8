/- Package ops, and what the document answers of it: contracts for the evaluator. -/
import Derived.Test.YtalippdhfkpbmaaDoorOpR
import Derived.Test.YtalippdhfkpbmaaDoorOpsI
namespace Go.Proofs.YtalippdhfkpbmaaDoor
open Go.RowKit Go
theorem truth_ok (k n : Int) {K : D → List Blk → Prop} (h : K (dB (truthB k n)) []) : DPure Tryd.prog 14 [dV k n] K :=
  DPure.ofBelow [.agg #[.int .i64 k, .int .i64 n]] rfl (by kernel_rfl) _ (dB (truthB k n)) (fun _ _ _ => by rw [RV]; exact .lit rfl) (fun w => truthV_any k n w) h
theorem unary_ok (op k n : Int) {K : D → List Blk → Prop} (h : K (dVT (unaryS op k n)) []) : DPure Tryd.prog 8 [dI op, dV k n] K :=
  DPure.ofBelow [.int .i64 op, .agg #[.int .i64 k, .int .i64 n]] rfl (by kernel_rfl) _ (dVT (unaryS op k n)) (dVT_ok _) (fun w => unary_any op k n w) h
theorem binary_ok (op k n l m : Int) {K : D → List Blk → Prop} (h : K (dVT (binaryS op k n l m)) []) : DPure Tryd.prog 9 [dI op, dV k n, dV l m] K :=
  DPure.ofBelow [.int .i64 op, .agg #[.int .i64 k, .int .i64 n], .agg #[.int .i64 l, .int .i64 m]] rfl (by kernel_rfl) _ (dVT (binaryS op k n l m)) (dVT_ok _) (fun w => binary_any op k n l m w) h
end Go.Proofs.YtalippdhfkpbmaaDoor
