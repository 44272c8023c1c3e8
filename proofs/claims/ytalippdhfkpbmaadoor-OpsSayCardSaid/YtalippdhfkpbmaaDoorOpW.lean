/- What the document answers of two values: the contract. -/
import Derived.Test.YtalippdhfkpbmaaDoorOpM
namespace Go.Proofs.YtalippdhfkpbmaaDoor
open Go.RowKit Go
set_option linter.unusedSimpArgs false
theorem w0 : IntKind.i64.wrap 0 = 0 := by decide
theorem w1 : IntKind.i64.wrap 1 = 1 := by decide
theorem w2 : IntKind.i64.wrap 2 = 2 := by decide
theorem w3 : IntKind.i64.wrap 3 = 3 := by decide
theorem nan_ofN {b : Nat} (h : isNum b = false) : ofN b = theNaN := by simp [ofN, isNum_same b ▸ h]
theorem float_res {op : BinOp} {x y : Nat} {z : Option Nat} (hz : floatBits op .f64 x y = z) {r : Nat} (h : z = some r ∨ (z = none ∧ isNum r = false)) : resF (floatBits op .f64 x y) = (3, ofN r, -1) := by
  subst hz
  rcases h with h | ⟨h, hn⟩
  · simp [resF, h]
  · simp [resF, h, nan_ofN hn]
set_option maxRecDepth 100000 in
set_option maxHeartbeats 2000000 in
theorem twoOp3F  (ak an bk bn : Int) (hA : takK ak an = 3) (hB : takK bk bn = 3) {K : D → List Blk → Prop} (h : K (dVT (binaryS 3 ak an bk bn)) []) : DPure Tryd.prog 11 [dI 3, dV ak an, dV bk bn] K := by
  refine fn_ok [0,1,2,4,5,6,7,8,9,10,11,12,13,45,47,49,58,62,74,90,104,106,131,133,134,144,154,164] [(1, [0,1,0,7,15,31], (.seg 0 (.seg 2 (.eff 1 [2] (.eff 3 [0, 2] (.eff 4 [] (.eff 5 [] .last))))))), (2, [0,1,0,7,15,31], (.seg 0 (.seg 2 (.eff 1 [2] (.eff 3 [] (.seg 4 (.seg 5 .last))))))), (15, [0,1,0,4,15,0,32,0,128,480,31,2047], (.seg 0 (.seg 1 (.seg 2 (.seg 3 (.seg 4 (.seg 5 (.seg 6 (.seg 7 (.seg 8 (.seg 9 (.seg 10 (.seg 11 .last))))))))))))), (39, [0,1,0,4,0,16,60,0,128,508,1023,2047,4095,4095,16383,32767], (.seg 0 (.seg 1 (.seg 2 (.seg 3 (.seg 4 (.seg 5 (.seg 6 (.seg 7 (.seg 8 (.seg 9 (.seg 10 (.eff 11 [1, 3, 5, 8] (.seg 12 (.seg 13 (.eff 14 [] (.seg 15 .last)))))))))))))))))] Tryd.func11 rfl (by kernel_rfl) rfl rfl rfl rfl (by kernel_rfl) ?_
  simp
  refine takenR_ok _ _ ?_
  simp
  refine takenR_ok _ _ ?_
  simp
  refine floatOf_ok _ _ ?_
  simp
  refine floatOf_ok _ _ ?_
  simp (maxSteps := 1000000) [w0, w1, w2, w3, hA, hB]
  repeat' (first | (refine alt (fun _ => ?_) (fun _ => ?_)) | (intro _) | (refine boolVal_ok _ ?_; simp) | (refine intVal_ok _ ?_; simp) | (refine floatVal_ok _ ?_; simp) | (refine And.intro (fun _ _ => ?_) (fun _ _ _ => ?_)))
  all_goals first | exact kVT h (Eq.trans (show binaryS 3 ak an bk bn = resF (floatBits .add .f64 (flt (takN ak an)) (flt (takN bk bn))) by simp [binaryS, binaryT, hA, hB, floatsS]; rfl) (float_res (op := .add) rfl (.inl (by assumption)))) | exact kVT h (Eq.trans (show binaryS 3 ak an bk bn = resF (floatBits .add .f64 (flt (takN ak an)) (flt (takN bk bn))) by simp [binaryS, binaryT, hA, hB, floatsS]; rfl) (float_res (op := .add) rfl (.inr ⟨by assumption, by assumption⟩)))
set_option maxRecDepth 100000 in
set_option maxHeartbeats 2000000 in
theorem twoOp4F  (ak an bk bn : Int) (hA : takK ak an = 3) (hB : takK bk bn = 3) {K : D → List Blk → Prop} (h : K (dVT (binaryS 4 ak an bk bn)) []) : DPure Tryd.prog 11 [dI 4, dV ak an, dV bk bn] K := by
  refine fn_ok [0,1,2,4,5,6,7,8,9,10,11,12,13,45,47,49,58,62,74,90,104,106,131,133,134,144,154,164] [(1, [0,1,0,7,15,31], (.seg 0 (.seg 2 (.eff 1 [2] (.eff 3 [0, 2] (.eff 4 [] (.eff 5 [] .last))))))), (2, [0,1,0,7,15,31], (.seg 0 (.seg 2 (.eff 1 [2] (.eff 3 [] (.seg 4 (.seg 5 .last))))))), (15, [0,1,0,4,15,0,32,0,128,480,31,2047], (.seg 0 (.seg 1 (.seg 2 (.seg 3 (.seg 4 (.seg 5 (.seg 6 (.seg 7 (.seg 8 (.seg 9 (.seg 10 (.seg 11 .last))))))))))))), (39, [0,1,0,4,0,16,60,0,128,508,1023,2047,4095,4095,16383,32767], (.seg 0 (.seg 1 (.seg 2 (.seg 3 (.seg 4 (.seg 5 (.seg 6 (.seg 7 (.seg 8 (.seg 9 (.seg 10 (.eff 11 [1, 3, 5, 8] (.seg 12 (.seg 13 (.eff 14 [] (.seg 15 .last)))))))))))))))))] Tryd.func11 rfl (by kernel_rfl) rfl rfl rfl rfl (by kernel_rfl) ?_
  simp
  refine takenR_ok _ _ ?_
  simp
  refine takenR_ok _ _ ?_
  simp
  refine floatOf_ok _ _ ?_
  simp
  refine floatOf_ok _ _ ?_
  simp (maxSteps := 1000000) [w0, w1, w2, w3, hA, hB]
  repeat' (first | (refine alt (fun _ => ?_) (fun _ => ?_)) | (intro _) | (refine boolVal_ok _ ?_; simp) | (refine intVal_ok _ ?_; simp) | (refine floatVal_ok _ ?_; simp) | (refine And.intro (fun _ _ => ?_) (fun _ _ _ => ?_)))
  all_goals first | exact kVT h (Eq.trans (show binaryS 4 ak an bk bn = resF (floatBits .sub .f64 (flt (takN ak an)) (flt (takN bk bn))) by simp [binaryS, binaryT, hA, hB, floatsS]; rfl) (float_res (op := .sub) rfl (.inl (by assumption)))) | exact kVT h (Eq.trans (show binaryS 4 ak an bk bn = resF (floatBits .sub .f64 (flt (takN ak an)) (flt (takN bk bn))) by simp [binaryS, binaryT, hA, hB, floatsS]; rfl) (float_res (op := .sub) rfl (.inr ⟨by assumption, by assumption⟩)))
set_option maxRecDepth 100000 in
set_option maxHeartbeats 2000000 in
theorem twoOp5F  (ak an bk bn : Int) (hA : takK ak an = 3) (hB : takK bk bn = 3) {K : D → List Blk → Prop} (h : K (dVT (binaryS 5 ak an bk bn)) []) : DPure Tryd.prog 11 [dI 5, dV ak an, dV bk bn] K := by
  refine fn_ok [0,1,2,4,5,6,7,8,9,10,11,12,13,45,47,49,58,62,74,90,104,106,131,133,134,144,154,164] [(1, [0,1,0,7,15,31], (.seg 0 (.seg 2 (.eff 1 [2] (.eff 3 [0, 2] (.eff 4 [] (.eff 5 [] .last))))))), (2, [0,1,0,7,15,31], (.seg 0 (.seg 2 (.eff 1 [2] (.eff 3 [] (.seg 4 (.seg 5 .last))))))), (15, [0,1,0,4,15,0,32,0,128,480,31,2047], (.seg 0 (.seg 1 (.seg 2 (.seg 3 (.seg 4 (.seg 5 (.seg 6 (.seg 7 (.seg 8 (.seg 9 (.seg 10 (.seg 11 .last))))))))))))), (39, [0,1,0,4,0,16,60,0,128,508,1023,2047,4095,4095,16383,32767], (.seg 0 (.seg 1 (.seg 2 (.seg 3 (.seg 4 (.seg 5 (.seg 6 (.seg 7 (.seg 8 (.seg 9 (.seg 10 (.eff 11 [1, 3, 5, 8] (.seg 12 (.seg 13 (.eff 14 [] (.seg 15 .last)))))))))))))))))] Tryd.func11 rfl (by kernel_rfl) rfl rfl rfl rfl (by kernel_rfl) ?_
  simp
  refine takenR_ok _ _ ?_
  simp
  refine takenR_ok _ _ ?_
  simp
  refine floatOf_ok _ _ ?_
  simp
  refine floatOf_ok _ _ ?_
  simp (maxSteps := 1000000) [w0, w1, w2, w3, hA, hB]
  repeat' (first | (refine alt (fun _ => ?_) (fun _ => ?_)) | (intro _) | (refine boolVal_ok _ ?_; simp) | (refine intVal_ok _ ?_; simp) | (refine floatVal_ok _ ?_; simp) | (refine And.intro (fun _ _ => ?_) (fun _ _ _ => ?_)))
  all_goals first | exact kVT h (Eq.trans (show binaryS 5 ak an bk bn = resF (floatBits .mul .f64 (flt (takN ak an)) (flt (takN bk bn))) by simp [binaryS, binaryT, hA, hB, floatsS]; rfl) (float_res (op := .mul) rfl (.inl (by assumption)))) | exact kVT h (Eq.trans (show binaryS 5 ak an bk bn = resF (floatBits .mul .f64 (flt (takN ak an)) (flt (takN bk bn))) by simp [binaryS, binaryT, hA, hB, floatsS]; rfl) (float_res (op := .mul) rfl (.inr ⟨by assumption, by assumption⟩)))
set_option maxRecDepth 100000 in
set_option maxHeartbeats 2000000 in
theorem twoOp6F  (ak an bk bn : Int) (hA : takK ak an = 3) (hB : takK bk bn = 3) {K : D → List Blk → Prop} (h : K (dVT (binaryS 6 ak an bk bn)) []) : DPure Tryd.prog 11 [dI 6, dV ak an, dV bk bn] K := by
  refine fn_ok [0,1,2,4,5,6,7,8,9,10,11,12,13,45,47,49,58,62,74,90,104,106,131,133,134,144,154,164] [(1, [0,1,0,7,15,31], (.seg 0 (.seg 2 (.eff 1 [2] (.eff 3 [0, 2] (.eff 4 [] (.eff 5 [] .last))))))), (2, [0,1,0,7,15,31], (.seg 0 (.seg 2 (.eff 1 [2] (.eff 3 [] (.seg 4 (.seg 5 .last))))))), (15, [0,1,0,4,15,0,32,0,128,480,31,2047], (.seg 0 (.seg 1 (.seg 2 (.seg 3 (.seg 4 (.seg 5 (.seg 6 (.seg 7 (.seg 8 (.seg 9 (.seg 10 (.seg 11 .last))))))))))))), (39, [0,1,0,4,0,16,60,0,128,508,1023,2047,4095,4095,16383,32767], (.seg 0 (.seg 1 (.seg 2 (.seg 3 (.seg 4 (.seg 5 (.seg 6 (.seg 7 (.seg 8 (.seg 9 (.seg 10 (.eff 11 [1, 3, 5, 8] (.seg 12 (.seg 13 (.eff 14 [] (.seg 15 .last)))))))))))))))))] Tryd.func11 rfl (by kernel_rfl) rfl rfl rfl rfl (by kernel_rfl) ?_
  simp
  refine takenR_ok _ _ ?_
  simp
  refine takenR_ok _ _ ?_
  simp
  refine floatOf_ok _ _ ?_
  simp
  refine floatOf_ok _ _ ?_
  simp (maxSteps := 1000000) [w0, w1, w2, w3, hA, hB]
  repeat' (first | (refine alt (fun _ => ?_) (fun _ => ?_)) | (intro _) | (refine boolVal_ok _ ?_; simp) | (refine intVal_ok _ ?_; simp) | (refine floatVal_ok _ ?_; simp) | (refine And.intro (fun _ _ => ?_) (fun _ _ _ => ?_)))
  all_goals first | exact kVT h (Eq.trans (show binaryS 6 ak an bk bn = resF (floatBits .quo .f64 (flt (takN ak an)) (flt (takN bk bn))) by simp [binaryS, binaryT, hA, hB, floatsS]; rfl) (float_res (op := .quo) rfl (.inl (by assumption)))) | exact kVT h (Eq.trans (show binaryS 6 ak an bk bn = resF (floatBits .quo .f64 (flt (takN ak an)) (flt (takN bk bn))) by simp [binaryS, binaryT, hA, hB, floatsS]; rfl) (float_res (op := .quo) rfl (.inr ⟨by assumption, by assumption⟩)))
set_option maxRecDepth 100000 in
set_option maxHeartbeats 2000000 in
theorem twoOp7F  (ak an bk bn : Int) (hA : takK ak an = 3) (hB : takK bk bn = 3) {K : D → List Blk → Prop} (h : K (dVT (binaryS 7 ak an bk bn)) []) : DPure Tryd.prog 11 [dI 7, dV ak an, dV bk bn] K := by
  refine fn_ok [0,1,2,4,5,6,7,8,9,10,11,12,13,45,47,49,58,62,74,90,104,106,131,133,134,144,154,164] [(1, [0,1,0,7,15,31], (.seg 0 (.seg 2 (.eff 1 [2] (.eff 3 [0, 2] (.eff 4 [] (.eff 5 [] .last))))))), (2, [0,1,0,7,15,31], (.seg 0 (.seg 2 (.eff 1 [2] (.eff 3 [] (.seg 4 (.seg 5 .last))))))), (15, [0,1,0,4,15,0,32,0,128,480,31,2047], (.seg 0 (.seg 1 (.seg 2 (.seg 3 (.seg 4 (.seg 5 (.seg 6 (.seg 7 (.seg 8 (.seg 9 (.seg 10 (.seg 11 .last))))))))))))), (39, [0,1,0,4,0,16,60,0,128,508,1023,2047,4095,4095,16383,32767], (.seg 0 (.seg 1 (.seg 2 (.seg 3 (.seg 4 (.seg 5 (.seg 6 (.seg 7 (.seg 8 (.seg 9 (.seg 10 (.eff 11 [1, 3, 5, 8] (.seg 12 (.seg 13 (.eff 14 [] (.seg 15 .last)))))))))))))))))] Tryd.func11 rfl (by kernel_rfl) rfl rfl rfl rfl (by kernel_rfl) ?_
  simp
  refine takenR_ok _ _ ?_
  simp
  refine takenR_ok _ _ ?_
  simp
  refine floatOf_ok _ _ ?_
  simp
  refine floatOf_ok _ _ ?_
  simp (maxSteps := 1000000) [w0, w1, w2, w3, hA, hB]
  repeat' (first | (refine alt (fun _ => ?_) (fun _ => ?_)) | (intro _) | (refine boolVal_ok _ ?_; simp) | (refine intVal_ok _ ?_; simp) | (refine floatVal_ok _ ?_; simp) | (refine And.intro (fun _ _ => ?_) (fun _ _ _ => ?_)))
  all_goals exact kVT h (by simp [binaryS, binaryT, hA, hB, floatsS, orderedF])
theorem wr64_in {n : Int} (h : -9223372036854775808 ≤ n ∧ n ≤ 9223372036854775807) : wrap64 n = n := IntWalk.wrap64_in n h
set_option maxRecDepth 100000 in
set_option maxHeartbeats 2000000 in
theorem twoOp3I  (ak an bk bn : Int) (hA : takK ak an = 2) (hB : takK bk bn = 2) {K : D → List Blk → Prop} (h : K (dVT (binaryS 3 ak an bk bn)) []) : DPure Tryd.prog 11 [dI 3, dV ak an, dV bk bn] K := by
  refine fn_ok [0,1,2,4,5,6,7,8,9,10,11,12,13,45,47,49,58,62,74,90,104,106,131,133,134,144,154,164] [(1, [0,1,0,7,15,31], (.seg 0 (.seg 2 (.eff 1 [2] (.eff 3 [0, 2] (.eff 4 [] (.eff 5 [] .last))))))), (2, [0,1,0,7,15,31], (.seg 0 (.seg 2 (.eff 1 [2] (.eff 3 [] (.seg 4 (.seg 5 .last))))))), (15, [0,1,0,4,15,0,32,0,128,480,31,2047], (.seg 0 (.seg 1 (.seg 2 (.seg 3 (.seg 4 (.seg 5 (.seg 6 (.seg 7 (.seg 8 (.seg 9 (.seg 10 (.seg 11 .last))))))))))))), (39, [0,1,0,4,0,16,60,0,128,508,1023,2047,4095,4095,16383,32767], (.seg 0 (.seg 1 (.seg 2 (.seg 3 (.seg 4 (.seg 5 (.seg 6 (.seg 7 (.seg 8 (.seg 9 (.seg 10 (.eff 11 [1, 3, 5, 8] (.seg 12 (.seg 13 (.eff 14 [] (.seg 15 .last)))))))))))))))))] Tryd.func11 rfl (by kernel_rfl) rfl rfl rfl rfl (by kernel_rfl) ?_
  simp
  refine takenR_ok _ _ ?_
  simp
  refine takenR_ok _ _ ?_
  simp
  refine floatOf_ok _ _ ?_
  simp
  refine floatOf_ok _ _ ?_
  simp (maxSteps := 1000000) [w0, w1, w2, w3, hA, hB]
  repeat' (first | (refine alt (fun _ => ?_) (fun _ => ?_)) | (intro _) | (refine boolVal_ok _ ?_; simp) | (refine intVal_ok _ ?_; simp) | (refine floatVal_ok _ ?_; simp) | (refine And.intro (fun _ _ => ?_) (fun _ _ _ => ?_)))
  all_goals exact kVT h (by have q1 := tak_int hA; have q2 := tak_int hB; simp [binaryS, binaryT, hA, hB, wholesS, IntWalk.i64_left, *] <;> (rw [wr64_in (by omega)]))
set_option maxRecDepth 100000 in
set_option maxHeartbeats 2000000 in
theorem twoOp4I  (ak an bk bn : Int) (hA : takK ak an = 2) (hB : takK bk bn = 2) {K : D → List Blk → Prop} (h : K (dVT (binaryS 4 ak an bk bn)) []) : DPure Tryd.prog 11 [dI 4, dV ak an, dV bk bn] K := by
  refine fn_ok [0,1,2,4,5,6,7,8,9,10,11,12,13,45,47,49,58,62,74,90,104,106,131,133,134,144,154,164] [(1, [0,1,0,7,15,31], (.seg 0 (.seg 2 (.eff 1 [2] (.eff 3 [0, 2] (.eff 4 [] (.eff 5 [] .last))))))), (2, [0,1,0,7,15,31], (.seg 0 (.seg 2 (.eff 1 [2] (.eff 3 [] (.seg 4 (.seg 5 .last))))))), (15, [0,1,0,4,15,0,32,0,128,480,31,2047], (.seg 0 (.seg 1 (.seg 2 (.seg 3 (.seg 4 (.seg 5 (.seg 6 (.seg 7 (.seg 8 (.seg 9 (.seg 10 (.seg 11 .last))))))))))))), (39, [0,1,0,4,0,16,60,0,128,508,1023,2047,4095,4095,16383,32767], (.seg 0 (.seg 1 (.seg 2 (.seg 3 (.seg 4 (.seg 5 (.seg 6 (.seg 7 (.seg 8 (.seg 9 (.seg 10 (.eff 11 [1, 3, 5, 8] (.seg 12 (.seg 13 (.eff 14 [] (.seg 15 .last)))))))))))))))))] Tryd.func11 rfl (by kernel_rfl) rfl rfl rfl rfl (by kernel_rfl) ?_
  simp
  refine takenR_ok _ _ ?_
  simp
  refine takenR_ok _ _ ?_
  simp
  refine floatOf_ok _ _ ?_
  simp
  refine floatOf_ok _ _ ?_
  simp (maxSteps := 1000000) [w0, w1, w2, w3, hA, hB]
  repeat' (first | (refine alt (fun _ => ?_) (fun _ => ?_)) | (intro _) | (refine boolVal_ok _ ?_; simp) | (refine intVal_ok _ ?_; simp) | (refine floatVal_ok _ ?_; simp) | (refine And.intro (fun _ _ => ?_) (fun _ _ _ => ?_)))
  all_goals exact kVT h (by have q1 := tak_int hA; have q2 := tak_int hB; simp [binaryS, binaryT, hA, hB, wholesS, IntWalk.i64_left, *] <;> (rw [wr64_in (by omega)]))
set_option maxRecDepth 100000 in
set_option maxHeartbeats 2000000 in
theorem twoOp5I  (ak an bk bn : Int) (hA : takK ak an = 2) (hB : takK bk bn = 2) {K : D → List Blk → Prop} (h : K (dVT (binaryS 5 ak an bk bn)) []) : DPure Tryd.prog 11 [dI 5, dV ak an, dV bk bn] K := by
  refine fn_ok [0,1,2,4,5,6,7,8,9,10,11,12,13,45,47,49,58,62,74,90,104,106,131,133,134,144,154,164] [(1, [0,1,0,7,15,31], (.seg 0 (.seg 2 (.eff 1 [2] (.eff 3 [0, 2] (.eff 4 [] (.eff 5 [] .last))))))), (2, [0,1,0,7,15,31], (.seg 0 (.seg 2 (.eff 1 [2] (.eff 3 [] (.seg 4 (.seg 5 .last))))))), (15, [0,1,0,4,15,0,32,0,128,480,31,2047], (.seg 0 (.seg 1 (.seg 2 (.seg 3 (.seg 4 (.seg 5 (.seg 6 (.seg 7 (.seg 8 (.seg 9 (.seg 10 (.seg 11 .last))))))))))))), (39, [0,1,0,4,0,16,60,0,128,508,1023,2047,4095,4095,16383,32767], (.seg 0 (.seg 1 (.seg 2 (.seg 3 (.seg 4 (.seg 5 (.seg 6 (.seg 7 (.seg 8 (.seg 9 (.seg 10 (.eff 11 [1, 3, 5, 8] (.seg 12 (.seg 13 (.eff 14 [] (.seg 15 .last)))))))))))))))))] Tryd.func11 rfl (by kernel_rfl) rfl rfl rfl rfl (by kernel_rfl) ?_
  simp
  refine takenR_ok _ _ ?_
  simp
  refine takenR_ok _ _ ?_
  simp
  refine floatOf_ok _ _ ?_
  simp
  refine floatOf_ok _ _ ?_
  simp (maxSteps := 1000000) [w0, w1, w2, w3, hA, hB]
  repeat' (first | (refine alt (fun _ => ?_) (fun _ => ?_)) | (intro _) | (refine boolVal_ok _ ?_; simp) | (refine intVal_ok _ ?_; simp) | (refine floatVal_ok _ ?_; simp) | (refine And.intro (fun _ _ => ?_) (fun _ _ _ => ?_)))
  all_goals exact kVT h (by have q1 := tak_int hA; have q2 := tak_int hB; simp [binaryS, binaryT, hA, hB, wholesS, IntWalk.i64_left, *] <;> done)
set_option maxRecDepth 100000 in
set_option maxHeartbeats 2000000 in
theorem twoOp6I0  (ak an bk bn : Int) (hA : takK ak an = 2) (hB : takK bk bn = 2) (hC : takN bk bn = 0) {K : D → List Blk → Prop} (h : K (dVT (binaryS 6 ak an bk bn)) []) : DPure Tryd.prog 11 [dI 6, dV ak an, dV bk bn] K := by
  refine fn_ok [0,1,2,4,5,6,7,8,9,10,11,12,13,45,47,49,58,62,74,90,104,106,131,133,134,144,154,164] [(1, [0,1,0,7,15,31], (.seg 0 (.seg 2 (.eff 1 [2] (.eff 3 [0, 2] (.eff 4 [] (.eff 5 [] .last))))))), (2, [0,1,0,7,15,31], (.seg 0 (.seg 2 (.eff 1 [2] (.eff 3 [] (.seg 4 (.seg 5 .last))))))), (15, [0,1,0,4,15,0,32,0,128,480,31,2047], (.seg 0 (.seg 1 (.seg 2 (.seg 3 (.seg 4 (.seg 5 (.seg 6 (.seg 7 (.seg 8 (.seg 9 (.seg 10 (.seg 11 .last))))))))))))), (39, [0,1,0,4,0,16,60,0,128,508,1023,2047,4095,4095,16383,32767], (.seg 0 (.seg 1 (.seg 2 (.seg 3 (.seg 4 (.seg 5 (.seg 6 (.seg 7 (.seg 8 (.seg 9 (.seg 10 (.eff 11 [1, 3, 5, 8] (.seg 12 (.seg 13 (.eff 14 [] (.seg 15 .last)))))))))))))))))] Tryd.func11 rfl (by kernel_rfl) rfl rfl rfl rfl (by kernel_rfl) ?_
  simp
  refine takenR_ok _ _ ?_
  simp
  refine takenR_ok _ _ ?_
  simp
  refine floatOf_ok _ _ ?_
  simp
  refine floatOf_ok _ _ ?_
  simp (maxSteps := 1000000) [w0, w1, w2, w3, hA, hB, hC]
  repeat' (first | (refine alt (fun _ => ?_) (fun _ => ?_)) | (intro _) | (refine boolVal_ok _ ?_; simp) | (refine intVal_ok _ ?_; simp) | (refine floatVal_ok _ ?_; simp) | (refine And.intro (fun _ _ => ?_) (fun _ _ _ => ?_)))
  all_goals exact kVT h (by simp [binaryS, binaryT, hA, hB, hC, wholesS])
set_option maxRecDepth 100000 in
set_option maxHeartbeats 2000000 in
theorem twoOp6I1  (ak an bk bn : Int) (hA : takK ak an = 2) (hB : takK bk bn = 2) (hC : takN bk bn ≠ 0) {K : D → List Blk → Prop} (h : K (dVT (binaryS 6 ak an bk bn)) []) : DPure Tryd.prog 11 [dI 6, dV ak an, dV bk bn] K := by
  refine fn_ok [0,1,2,4,5,6,7,8,9,10,11,12,13,45,47,49,58,62,74,90,104,106,131,133,134,144,154,164] [(1, [0,1,0,7,15,31], (.seg 0 (.seg 2 (.eff 1 [2] (.eff 3 [0, 2] (.eff 4 [] (.eff 5 [] .last))))))), (2, [0,1,0,7,15,31], (.seg 0 (.seg 2 (.eff 1 [2] (.eff 3 [] (.seg 4 (.seg 5 .last))))))), (15, [0,1,0,4,15,0,32,0,128,480,31,2047], (.seg 0 (.seg 1 (.seg 2 (.seg 3 (.seg 4 (.seg 5 (.seg 6 (.seg 7 (.seg 8 (.seg 9 (.seg 10 (.seg 11 .last))))))))))))), (39, [0,1,0,4,0,16,60,0,128,508,1023,2047,4095,4095,16383,32767], (.seg 0 (.seg 1 (.seg 2 (.seg 3 (.seg 4 (.seg 5 (.seg 6 (.seg 7 (.seg 8 (.seg 9 (.seg 10 (.eff 11 [1, 3, 5, 8] (.seg 12 (.seg 13 (.eff 14 [] (.seg 15 .last)))))))))))))))))] Tryd.func11 rfl (by kernel_rfl) rfl rfl rfl rfl (by kernel_rfl) ?_
  simp
  refine takenR_ok _ _ ?_
  simp
  refine takenR_ok _ _ ?_
  simp
  refine floatOf_ok _ _ ?_
  simp
  refine floatOf_ok _ _ ?_
  simp (maxSteps := 1000000) [w0, w1, w2, w3, hA, hB, hC]
  repeat' (first | (refine alt (fun _ => ?_) (fun _ => ?_)) | (intro _) | (refine boolVal_ok _ ?_; simp) | (refine intVal_ok _ ?_; simp) | (refine floatVal_ok _ ?_; simp) | (refine And.intro (fun _ _ => ?_) (fun _ _ _ => ?_)))
  all_goals exact kVT h (by simp [binaryS, binaryT, hA, hB, hC, wholesS, IntWalk.i64_left])
set_option maxRecDepth 100000 in
set_option maxHeartbeats 2000000 in
theorem twoOp7I0  (ak an bk bn : Int) (hA : takK ak an = 2) (hB : takK bk bn = 2) (hC : takN bk bn = 0) {K : D → List Blk → Prop} (h : K (dVT (binaryS 7 ak an bk bn)) []) : DPure Tryd.prog 11 [dI 7, dV ak an, dV bk bn] K := by
  refine fn_ok [0,1,2,4,5,6,7,8,9,10,11,12,13,45,47,49,58,62,74,90,104,106,131,133,134,144,154,164] [(1, [0,1,0,7,15,31], (.seg 0 (.seg 2 (.eff 1 [2] (.eff 3 [0, 2] (.eff 4 [] (.eff 5 [] .last))))))), (2, [0,1,0,7,15,31], (.seg 0 (.seg 2 (.eff 1 [2] (.eff 3 [] (.seg 4 (.seg 5 .last))))))), (15, [0,1,0,4,15,0,32,0,128,480,31,2047], (.seg 0 (.seg 1 (.seg 2 (.seg 3 (.seg 4 (.seg 5 (.seg 6 (.seg 7 (.seg 8 (.seg 9 (.seg 10 (.seg 11 .last))))))))))))), (39, [0,1,0,4,0,16,60,0,128,508,1023,2047,4095,4095,16383,32767], (.seg 0 (.seg 1 (.seg 2 (.seg 3 (.seg 4 (.seg 5 (.seg 6 (.seg 7 (.seg 8 (.seg 9 (.seg 10 (.eff 11 [1, 3, 5, 8] (.seg 12 (.seg 13 (.eff 14 [] (.seg 15 .last)))))))))))))))))] Tryd.func11 rfl (by kernel_rfl) rfl rfl rfl rfl (by kernel_rfl) ?_
  simp
  refine takenR_ok _ _ ?_
  simp
  refine takenR_ok _ _ ?_
  simp
  refine floatOf_ok _ _ ?_
  simp
  refine floatOf_ok _ _ ?_
  simp (maxSteps := 1000000) [w0, w1, w2, w3, hA, hB, hC]
  repeat' (first | (refine alt (fun _ => ?_) (fun _ => ?_)) | (intro _) | (refine boolVal_ok _ ?_; simp) | (refine intVal_ok _ ?_; simp) | (refine floatVal_ok _ ?_; simp) | (refine And.intro (fun _ _ => ?_) (fun _ _ _ => ?_)))
  all_goals exact kVT h (by simp [binaryS, binaryT, hA, hB, hC, wholesS])
theorem mod_wr {a b : Int} (ha : -2147483648 ≤ a ∧ a ≤ 2147483647) (hb : -2147483648 ≤ b ∧ b ≤ 2147483647) : wrap64 (a - wrap64 (wrap64 (a.tdiv b) * b)) = a.tmod b := by
  have h1 : a.tdiv b * b + a.tmod b = a := Int.tdiv_mul_add_tmod a b
  have h2 : (a.tdiv b).natAbs ≤ a.natAbs := Int.natAbs_tdiv_le_natAbs a b
  have h3 : (a.tmod b).natAbs ≤ a.natAbs := by rw [Int.natAbs_tmod]; exact Nat.mod_le _ _
  rw [wr64_in (n := a.tdiv b) (by omega), wr64_in (n := a.tdiv b * b) (by omega), wr64_in (by omega)]
  omega
set_option maxRecDepth 100000 in
set_option maxHeartbeats 2000000 in
theorem twoOp7I1  (ak an bk bn : Int) (hA : takK ak an = 2) (hB : takK bk bn = 2) (hC : takN bk bn ≠ 0) {K : D → List Blk → Prop} (h : K (dVT (binaryS 7 ak an bk bn)) []) : DPure Tryd.prog 11 [dI 7, dV ak an, dV bk bn] K := by
  refine fn_ok [0,1,2,4,5,6,7,8,9,10,11,12,13,45,47,49,58,62,74,90,104,106,131,133,134,144,154,164] [(1, [0,1,0,7,15,31], (.seg 0 (.seg 2 (.eff 1 [2] (.eff 3 [0, 2] (.eff 4 [] (.eff 5 [] .last))))))), (2, [0,1,0,7,15,31], (.seg 0 (.seg 2 (.eff 1 [2] (.eff 3 [] (.seg 4 (.seg 5 .last))))))), (15, [0,1,0,4,15,0,32,0,128,480,31,2047], (.seg 0 (.seg 1 (.seg 2 (.seg 3 (.seg 4 (.seg 5 (.seg 6 (.seg 7 (.seg 8 (.seg 9 (.seg 10 (.seg 11 .last))))))))))))), (39, [0,1,0,4,0,16,60,0,128,508,1023,2047,4095,4095,16383,32767], (.seg 0 (.seg 1 (.seg 2 (.seg 3 (.seg 4 (.seg 5 (.seg 6 (.seg 7 (.seg 8 (.seg 9 (.seg 10 (.eff 11 [1, 3, 5, 8] (.seg 12 (.seg 13 (.eff 14 [] (.seg 15 .last)))))))))))))))))] Tryd.func11 rfl (by kernel_rfl) rfl rfl rfl rfl (by kernel_rfl) ?_
  simp
  refine takenR_ok _ _ ?_
  simp
  refine takenR_ok _ _ ?_
  simp
  refine floatOf_ok _ _ ?_
  simp
  refine floatOf_ok _ _ ?_
  simp (maxSteps := 1000000) [w0, w1, w2, w3, hA, hB, hC]
  repeat' (first | (refine alt (fun _ => ?_) (fun _ => ?_)) | (intro _) | (refine boolVal_ok _ ?_; simp) | (refine intVal_ok _ ?_; simp) | (refine floatVal_ok _ ?_; simp) | (refine And.intro (fun _ _ => ?_) (fun _ _ _ => ?_)))
  all_goals exact kVT h (by simp [binaryS, binaryT, hA, hB, hC, wholesS, IntWalk.i64_left, mod_wr (tak_int hA) (tak_int hB)])
theorem twoOp6I (ak an bk bn : Int) (hA : takK ak an = 2) (hB : takK bk bn = 2) {K : D → List Blk → Prop} (h : K (dVT (binaryS 6 ak an bk bn)) []) : DPure Tryd.prog 11 [dI 6, dV ak an, dV bk bn] K := by
  by_cases hC : takN bk bn = 0
  · exact twoOp6I0 ak an bk bn hA hB hC h
  · exact twoOp6I1 ak an bk bn hA hB hC h
theorem twoOp7I (ak an bk bn : Int) (hA : takK ak an = 2) (hB : takK bk bn = 2) {K : D → List Blk → Prop} (h : K (dVT (binaryS 7 ak an bk bn)) []) : DPure Tryd.prog 11 [dI 7, dV ak an, dV bk bn] K := by
  by_cases hC : takN bk bn = 0
  · exact twoOp7I0 ak an bk bn hA hB hC h
  · exact twoOp7I1 ak an bk bn hA hB hC h
set_option maxRecDepth 100000 in
set_option maxHeartbeats 2000000 in
theorem twoOp3A  (ak an bk bn : Int) (hA : takK ak an = 3) (hB : takK bk bn ≠ 3) {K : D → List Blk → Prop} (h : K (dVT (binaryS 3 ak an bk bn)) []) : DPure Tryd.prog 11 [dI 3, dV ak an, dV bk bn] K := by
  refine fn_ok [0,1,2,4,5,6,7,8,9,10,11,12,13,45,47,49,58,62,74,90,104,106,131,133,134,144,154,164] [(1, [0,1,0,7,15,31], (.seg 0 (.seg 2 (.eff 1 [2] (.eff 3 [0, 2] (.eff 4 [] (.eff 5 [] .last))))))), (2, [0,1,0,7,15,31], (.seg 0 (.seg 2 (.eff 1 [2] (.eff 3 [] (.seg 4 (.seg 5 .last))))))), (15, [0,1,0,4,15,0,32,0,128,480,31,2047], (.seg 0 (.seg 1 (.seg 2 (.seg 3 (.seg 4 (.seg 5 (.seg 6 (.seg 7 (.seg 8 (.seg 9 (.seg 10 (.seg 11 .last))))))))))))), (39, [0,1,0,4,0,16,60,0,128,508,1023,2047,4095,4095,16383,32767], (.seg 0 (.seg 1 (.seg 2 (.seg 3 (.seg 4 (.seg 5 (.seg 6 (.seg 7 (.seg 8 (.seg 9 (.seg 10 (.eff 11 [1, 3, 5, 8] (.seg 12 (.seg 13 (.eff 14 [] (.seg 15 .last)))))))))))))))))] Tryd.func11 rfl (by kernel_rfl) rfl rfl rfl rfl (by kernel_rfl) ?_
  simp
  refine takenR_ok _ _ ?_
  simp
  refine takenR_ok _ _ ?_
  simp
  refine floatOf_ok _ _ ?_
  simp
  refine floatOf_ok _ _ ?_
  simp (maxSteps := 1000000) [w0, w1, w2, w3, hA, hB, Ne.symm hB]
  repeat' (first | (refine alt (fun _ => ?_) (fun _ => ?_)) | (intro _) | (refine boolVal_ok _ ?_; simp) | (refine intVal_ok _ ?_; simp) | (refine floatVal_ok _ ?_; simp) | (refine And.intro (fun _ _ => ?_) (fun _ _ _ => ?_)))
  all_goals exact kVT h (by simp [binaryS, binaryT, hA, hB])
set_option maxRecDepth 100000 in
set_option maxHeartbeats 2000000 in
theorem twoOp3B  (ak an bk bn : Int) (hA : takK ak an = 2) (hB : takK bk bn ≠ 2) {K : D → List Blk → Prop} (h : K (dVT (binaryS 3 ak an bk bn)) []) : DPure Tryd.prog 11 [dI 3, dV ak an, dV bk bn] K := by
  refine fn_ok [0,1,2,4,5,6,7,8,9,10,11,12,13,45,47,49,58,62,74,90,104,106,131,133,134,144,154,164] [(1, [0,1,0,7,15,31], (.seg 0 (.seg 2 (.eff 1 [2] (.eff 3 [0, 2] (.eff 4 [] (.eff 5 [] .last))))))), (2, [0,1,0,7,15,31], (.seg 0 (.seg 2 (.eff 1 [2] (.eff 3 [] (.seg 4 (.seg 5 .last))))))), (15, [0,1,0,4,15,0,32,0,128,480,31,2047], (.seg 0 (.seg 1 (.seg 2 (.seg 3 (.seg 4 (.seg 5 (.seg 6 (.seg 7 (.seg 8 (.seg 9 (.seg 10 (.seg 11 .last))))))))))))), (39, [0,1,0,4,0,16,60,0,128,508,1023,2047,4095,4095,16383,32767], (.seg 0 (.seg 1 (.seg 2 (.seg 3 (.seg 4 (.seg 5 (.seg 6 (.seg 7 (.seg 8 (.seg 9 (.seg 10 (.eff 11 [1, 3, 5, 8] (.seg 12 (.seg 13 (.eff 14 [] (.seg 15 .last)))))))))))))))))] Tryd.func11 rfl (by kernel_rfl) rfl rfl rfl rfl (by kernel_rfl) ?_
  simp
  refine takenR_ok _ _ ?_
  simp
  refine takenR_ok _ _ ?_
  simp
  refine floatOf_ok _ _ ?_
  simp
  refine floatOf_ok _ _ ?_
  simp (maxSteps := 1000000) [w0, w1, w2, w3, hA, hB, Ne.symm hB]
  repeat' (first | (refine alt (fun _ => ?_) (fun _ => ?_)) | (intro _) | (refine boolVal_ok _ ?_; simp) | (refine intVal_ok _ ?_; simp) | (refine floatVal_ok _ ?_; simp) | (refine And.intro (fun _ _ => ?_) (fun _ _ _ => ?_)))
  all_goals exact kVT h (by simp [binaryS, binaryT, hA, hB])
set_option maxRecDepth 100000 in
set_option maxHeartbeats 2000000 in
theorem twoOp3C  (ak an bk bn : Int) (hA : takK ak an ≠ 2) (hB : takK ak an ≠ 3) {K : D → List Blk → Prop} (h : K (dVT (binaryS 3 ak an bk bn)) []) : DPure Tryd.prog 11 [dI 3, dV ak an, dV bk bn] K := by
  refine fn_ok [0,1,2,4,5,6,7,8,9,10,11,12,13,45,47,49,58,62,74,90,104,106,131,133,134,144,154,164] [(1, [0,1,0,7,15,31], (.seg 0 (.seg 2 (.eff 1 [2] (.eff 3 [0, 2] (.eff 4 [] (.eff 5 [] .last))))))), (2, [0,1,0,7,15,31], (.seg 0 (.seg 2 (.eff 1 [2] (.eff 3 [] (.seg 4 (.seg 5 .last))))))), (15, [0,1,0,4,15,0,32,0,128,480,31,2047], (.seg 0 (.seg 1 (.seg 2 (.seg 3 (.seg 4 (.seg 5 (.seg 6 (.seg 7 (.seg 8 (.seg 9 (.seg 10 (.seg 11 .last))))))))))))), (39, [0,1,0,4,0,16,60,0,128,508,1023,2047,4095,4095,16383,32767], (.seg 0 (.seg 1 (.seg 2 (.seg 3 (.seg 4 (.seg 5 (.seg 6 (.seg 7 (.seg 8 (.seg 9 (.seg 10 (.eff 11 [1, 3, 5, 8] (.seg 12 (.seg 13 (.eff 14 [] (.seg 15 .last)))))))))))))))))] Tryd.func11 rfl (by kernel_rfl) rfl rfl rfl rfl (by kernel_rfl) ?_
  simp
  refine takenR_ok _ _ ?_
  simp
  refine takenR_ok _ _ ?_
  simp
  refine floatOf_ok _ _ ?_
  simp
  refine floatOf_ok _ _ ?_
  simp (maxSteps := 1000000) [w0, w1, w2, w3, hA, hB]
  repeat' (first | (refine alt (fun _ => ?_) (fun _ => ?_)) | (intro _) | (refine boolVal_ok _ ?_; simp) | (refine intVal_ok _ ?_; simp) | (refine floatVal_ok _ ?_; simp) | (refine And.intro (fun _ _ => ?_) (fun _ _ _ => ?_)))
  all_goals exact kVT h (by simp [binaryS, binaryT, hA, hB])
theorem twoOp3 (ak an bk bn : Int) {K : D → List Blk → Prop} (h : K (dVT (binaryS 3 ak an bk bn)) []) : DPure Tryd.prog 11 [dI 3, dV ak an, dV bk bn] K := by
  by_cases h2 : takK ak an = 2
  · by_cases h3 : takK bk bn = 2
    · exact twoOp3I ak an bk bn h2 h3 h
    · exact twoOp3B ak an bk bn h2 h3 h
  · by_cases h4 : takK ak an = 3
    · by_cases h3 : takK bk bn = 3
      · exact twoOp3F ak an bk bn h4 h3 h
      · exact twoOp3A ak an bk bn h4 h3 h
    · exact twoOp3C ak an bk bn h2 h4 h
set_option maxRecDepth 100000 in
set_option maxHeartbeats 2000000 in
theorem twoOp4A  (ak an bk bn : Int) (hA : takK ak an = 3) (hB : takK bk bn ≠ 3) {K : D → List Blk → Prop} (h : K (dVT (binaryS 4 ak an bk bn)) []) : DPure Tryd.prog 11 [dI 4, dV ak an, dV bk bn] K := by
  refine fn_ok [0,1,2,4,5,6,7,8,9,10,11,12,13,45,47,49,58,62,74,90,104,106,131,133,134,144,154,164] [(1, [0,1,0,7,15,31], (.seg 0 (.seg 2 (.eff 1 [2] (.eff 3 [0, 2] (.eff 4 [] (.eff 5 [] .last))))))), (2, [0,1,0,7,15,31], (.seg 0 (.seg 2 (.eff 1 [2] (.eff 3 [] (.seg 4 (.seg 5 .last))))))), (15, [0,1,0,4,15,0,32,0,128,480,31,2047], (.seg 0 (.seg 1 (.seg 2 (.seg 3 (.seg 4 (.seg 5 (.seg 6 (.seg 7 (.seg 8 (.seg 9 (.seg 10 (.seg 11 .last))))))))))))), (39, [0,1,0,4,0,16,60,0,128,508,1023,2047,4095,4095,16383,32767], (.seg 0 (.seg 1 (.seg 2 (.seg 3 (.seg 4 (.seg 5 (.seg 6 (.seg 7 (.seg 8 (.seg 9 (.seg 10 (.eff 11 [1, 3, 5, 8] (.seg 12 (.seg 13 (.eff 14 [] (.seg 15 .last)))))))))))))))))] Tryd.func11 rfl (by kernel_rfl) rfl rfl rfl rfl (by kernel_rfl) ?_
  simp
  refine takenR_ok _ _ ?_
  simp
  refine takenR_ok _ _ ?_
  simp
  refine floatOf_ok _ _ ?_
  simp
  refine floatOf_ok _ _ ?_
  simp (maxSteps := 1000000) [w0, w1, w2, w3, hA, hB, Ne.symm hB]
  repeat' (first | (refine alt (fun _ => ?_) (fun _ => ?_)) | (intro _) | (refine boolVal_ok _ ?_; simp) | (refine intVal_ok _ ?_; simp) | (refine floatVal_ok _ ?_; simp) | (refine And.intro (fun _ _ => ?_) (fun _ _ _ => ?_)))
  all_goals exact kVT h (by simp [binaryS, binaryT, hA, hB])
set_option maxRecDepth 100000 in
set_option maxHeartbeats 2000000 in
theorem twoOp4B  (ak an bk bn : Int) (hA : takK ak an = 2) (hB : takK bk bn ≠ 2) {K : D → List Blk → Prop} (h : K (dVT (binaryS 4 ak an bk bn)) []) : DPure Tryd.prog 11 [dI 4, dV ak an, dV bk bn] K := by
  refine fn_ok [0,1,2,4,5,6,7,8,9,10,11,12,13,45,47,49,58,62,74,90,104,106,131,133,134,144,154,164] [(1, [0,1,0,7,15,31], (.seg 0 (.seg 2 (.eff 1 [2] (.eff 3 [0, 2] (.eff 4 [] (.eff 5 [] .last))))))), (2, [0,1,0,7,15,31], (.seg 0 (.seg 2 (.eff 1 [2] (.eff 3 [] (.seg 4 (.seg 5 .last))))))), (15, [0,1,0,4,15,0,32,0,128,480,31,2047], (.seg 0 (.seg 1 (.seg 2 (.seg 3 (.seg 4 (.seg 5 (.seg 6 (.seg 7 (.seg 8 (.seg 9 (.seg 10 (.seg 11 .last))))))))))))), (39, [0,1,0,4,0,16,60,0,128,508,1023,2047,4095,4095,16383,32767], (.seg 0 (.seg 1 (.seg 2 (.seg 3 (.seg 4 (.seg 5 (.seg 6 (.seg 7 (.seg 8 (.seg 9 (.seg 10 (.eff 11 [1, 3, 5, 8] (.seg 12 (.seg 13 (.eff 14 [] (.seg 15 .last)))))))))))))))))] Tryd.func11 rfl (by kernel_rfl) rfl rfl rfl rfl (by kernel_rfl) ?_
  simp
  refine takenR_ok _ _ ?_
  simp
  refine takenR_ok _ _ ?_
  simp
  refine floatOf_ok _ _ ?_
  simp
  refine floatOf_ok _ _ ?_
  simp (maxSteps := 1000000) [w0, w1, w2, w3, hA, hB, Ne.symm hB]
  repeat' (first | (refine alt (fun _ => ?_) (fun _ => ?_)) | (intro _) | (refine boolVal_ok _ ?_; simp) | (refine intVal_ok _ ?_; simp) | (refine floatVal_ok _ ?_; simp) | (refine And.intro (fun _ _ => ?_) (fun _ _ _ => ?_)))
  all_goals exact kVT h (by simp [binaryS, binaryT, hA, hB])
set_option maxRecDepth 100000 in
set_option maxHeartbeats 2000000 in
theorem twoOp4C  (ak an bk bn : Int) (hA : takK ak an ≠ 2) (hB : takK ak an ≠ 3) {K : D → List Blk → Prop} (h : K (dVT (binaryS 4 ak an bk bn)) []) : DPure Tryd.prog 11 [dI 4, dV ak an, dV bk bn] K := by
  refine fn_ok [0,1,2,4,5,6,7,8,9,10,11,12,13,45,47,49,58,62,74,90,104,106,131,133,134,144,154,164] [(1, [0,1,0,7,15,31], (.seg 0 (.seg 2 (.eff 1 [2] (.eff 3 [0, 2] (.eff 4 [] (.eff 5 [] .last))))))), (2, [0,1,0,7,15,31], (.seg 0 (.seg 2 (.eff 1 [2] (.eff 3 [] (.seg 4 (.seg 5 .last))))))), (15, [0,1,0,4,15,0,32,0,128,480,31,2047], (.seg 0 (.seg 1 (.seg 2 (.seg 3 (.seg 4 (.seg 5 (.seg 6 (.seg 7 (.seg 8 (.seg 9 (.seg 10 (.seg 11 .last))))))))))))), (39, [0,1,0,4,0,16,60,0,128,508,1023,2047,4095,4095,16383,32767], (.seg 0 (.seg 1 (.seg 2 (.seg 3 (.seg 4 (.seg 5 (.seg 6 (.seg 7 (.seg 8 (.seg 9 (.seg 10 (.eff 11 [1, 3, 5, 8] (.seg 12 (.seg 13 (.eff 14 [] (.seg 15 .last)))))))))))))))))] Tryd.func11 rfl (by kernel_rfl) rfl rfl rfl rfl (by kernel_rfl) ?_
  simp
  refine takenR_ok _ _ ?_
  simp
  refine takenR_ok _ _ ?_
  simp
  refine floatOf_ok _ _ ?_
  simp
  refine floatOf_ok _ _ ?_
  simp (maxSteps := 1000000) [w0, w1, w2, w3, hA, hB]
  repeat' (first | (refine alt (fun _ => ?_) (fun _ => ?_)) | (intro _) | (refine boolVal_ok _ ?_; simp) | (refine intVal_ok _ ?_; simp) | (refine floatVal_ok _ ?_; simp) | (refine And.intro (fun _ _ => ?_) (fun _ _ _ => ?_)))
  all_goals exact kVT h (by simp [binaryS, binaryT, hA, hB])
theorem twoOp4 (ak an bk bn : Int) {K : D → List Blk → Prop} (h : K (dVT (binaryS 4 ak an bk bn)) []) : DPure Tryd.prog 11 [dI 4, dV ak an, dV bk bn] K := by
  by_cases h2 : takK ak an = 2
  · by_cases h3 : takK bk bn = 2
    · exact twoOp4I ak an bk bn h2 h3 h
    · exact twoOp4B ak an bk bn h2 h3 h
  · by_cases h4 : takK ak an = 3
    · by_cases h3 : takK bk bn = 3
      · exact twoOp4F ak an bk bn h4 h3 h
      · exact twoOp4A ak an bk bn h4 h3 h
    · exact twoOp4C ak an bk bn h2 h4 h
set_option maxRecDepth 100000 in
set_option maxHeartbeats 2000000 in
theorem twoOp5A  (ak an bk bn : Int) (hA : takK ak an = 3) (hB : takK bk bn ≠ 3) {K : D → List Blk → Prop} (h : K (dVT (binaryS 5 ak an bk bn)) []) : DPure Tryd.prog 11 [dI 5, dV ak an, dV bk bn] K := by
  refine fn_ok [0,1,2,4,5,6,7,8,9,10,11,12,13,45,47,49,58,62,74,90,104,106,131,133,134,144,154,164] [(1, [0,1,0,7,15,31], (.seg 0 (.seg 2 (.eff 1 [2] (.eff 3 [0, 2] (.eff 4 [] (.eff 5 [] .last))))))), (2, [0,1,0,7,15,31], (.seg 0 (.seg 2 (.eff 1 [2] (.eff 3 [] (.seg 4 (.seg 5 .last))))))), (15, [0,1,0,4,15,0,32,0,128,480,31,2047], (.seg 0 (.seg 1 (.seg 2 (.seg 3 (.seg 4 (.seg 5 (.seg 6 (.seg 7 (.seg 8 (.seg 9 (.seg 10 (.seg 11 .last))))))))))))), (39, [0,1,0,4,0,16,60,0,128,508,1023,2047,4095,4095,16383,32767], (.seg 0 (.seg 1 (.seg 2 (.seg 3 (.seg 4 (.seg 5 (.seg 6 (.seg 7 (.seg 8 (.seg 9 (.seg 10 (.eff 11 [1, 3, 5, 8] (.seg 12 (.seg 13 (.eff 14 [] (.seg 15 .last)))))))))))))))))] Tryd.func11 rfl (by kernel_rfl) rfl rfl rfl rfl (by kernel_rfl) ?_
  simp
  refine takenR_ok _ _ ?_
  simp
  refine takenR_ok _ _ ?_
  simp
  refine floatOf_ok _ _ ?_
  simp
  refine floatOf_ok _ _ ?_
  simp (maxSteps := 1000000) [w0, w1, w2, w3, hA, hB, Ne.symm hB]
  repeat' (first | (refine alt (fun _ => ?_) (fun _ => ?_)) | (intro _) | (refine boolVal_ok _ ?_; simp) | (refine intVal_ok _ ?_; simp) | (refine floatVal_ok _ ?_; simp) | (refine And.intro (fun _ _ => ?_) (fun _ _ _ => ?_)))
  all_goals exact kVT h (by simp [binaryS, binaryT, hA, hB])
set_option maxRecDepth 100000 in
set_option maxHeartbeats 2000000 in
theorem twoOp5B  (ak an bk bn : Int) (hA : takK ak an = 2) (hB : takK bk bn ≠ 2) {K : D → List Blk → Prop} (h : K (dVT (binaryS 5 ak an bk bn)) []) : DPure Tryd.prog 11 [dI 5, dV ak an, dV bk bn] K := by
  refine fn_ok [0,1,2,4,5,6,7,8,9,10,11,12,13,45,47,49,58,62,74,90,104,106,131,133,134,144,154,164] [(1, [0,1,0,7,15,31], (.seg 0 (.seg 2 (.eff 1 [2] (.eff 3 [0, 2] (.eff 4 [] (.eff 5 [] .last))))))), (2, [0,1,0,7,15,31], (.seg 0 (.seg 2 (.eff 1 [2] (.eff 3 [] (.seg 4 (.seg 5 .last))))))), (15, [0,1,0,4,15,0,32,0,128,480,31,2047], (.seg 0 (.seg 1 (.seg 2 (.seg 3 (.seg 4 (.seg 5 (.seg 6 (.seg 7 (.seg 8 (.seg 9 (.seg 10 (.seg 11 .last))))))))))))), (39, [0,1,0,4,0,16,60,0,128,508,1023,2047,4095,4095,16383,32767], (.seg 0 (.seg 1 (.seg 2 (.seg 3 (.seg 4 (.seg 5 (.seg 6 (.seg 7 (.seg 8 (.seg 9 (.seg 10 (.eff 11 [1, 3, 5, 8] (.seg 12 (.seg 13 (.eff 14 [] (.seg 15 .last)))))))))))))))))] Tryd.func11 rfl (by kernel_rfl) rfl rfl rfl rfl (by kernel_rfl) ?_
  simp
  refine takenR_ok _ _ ?_
  simp
  refine takenR_ok _ _ ?_
  simp
  refine floatOf_ok _ _ ?_
  simp
  refine floatOf_ok _ _ ?_
  simp (maxSteps := 1000000) [w0, w1, w2, w3, hA, hB, Ne.symm hB]
  repeat' (first | (refine alt (fun _ => ?_) (fun _ => ?_)) | (intro _) | (refine boolVal_ok _ ?_; simp) | (refine intVal_ok _ ?_; simp) | (refine floatVal_ok _ ?_; simp) | (refine And.intro (fun _ _ => ?_) (fun _ _ _ => ?_)))
  all_goals exact kVT h (by simp [binaryS, binaryT, hA, hB])
set_option maxRecDepth 100000 in
set_option maxHeartbeats 2000000 in
theorem twoOp5C  (ak an bk bn : Int) (hA : takK ak an ≠ 2) (hB : takK ak an ≠ 3) {K : D → List Blk → Prop} (h : K (dVT (binaryS 5 ak an bk bn)) []) : DPure Tryd.prog 11 [dI 5, dV ak an, dV bk bn] K := by
  refine fn_ok [0,1,2,4,5,6,7,8,9,10,11,12,13,45,47,49,58,62,74,90,104,106,131,133,134,144,154,164] [(1, [0,1,0,7,15,31], (.seg 0 (.seg 2 (.eff 1 [2] (.eff 3 [0, 2] (.eff 4 [] (.eff 5 [] .last))))))), (2, [0,1,0,7,15,31], (.seg 0 (.seg 2 (.eff 1 [2] (.eff 3 [] (.seg 4 (.seg 5 .last))))))), (15, [0,1,0,4,15,0,32,0,128,480,31,2047], (.seg 0 (.seg 1 (.seg 2 (.seg 3 (.seg 4 (.seg 5 (.seg 6 (.seg 7 (.seg 8 (.seg 9 (.seg 10 (.seg 11 .last))))))))))))), (39, [0,1,0,4,0,16,60,0,128,508,1023,2047,4095,4095,16383,32767], (.seg 0 (.seg 1 (.seg 2 (.seg 3 (.seg 4 (.seg 5 (.seg 6 (.seg 7 (.seg 8 (.seg 9 (.seg 10 (.eff 11 [1, 3, 5, 8] (.seg 12 (.seg 13 (.eff 14 [] (.seg 15 .last)))))))))))))))))] Tryd.func11 rfl (by kernel_rfl) rfl rfl rfl rfl (by kernel_rfl) ?_
  simp
  refine takenR_ok _ _ ?_
  simp
  refine takenR_ok _ _ ?_
  simp
  refine floatOf_ok _ _ ?_
  simp
  refine floatOf_ok _ _ ?_
  simp (maxSteps := 1000000) [w0, w1, w2, w3, hA, hB]
  repeat' (first | (refine alt (fun _ => ?_) (fun _ => ?_)) | (intro _) | (refine boolVal_ok _ ?_; simp) | (refine intVal_ok _ ?_; simp) | (refine floatVal_ok _ ?_; simp) | (refine And.intro (fun _ _ => ?_) (fun _ _ _ => ?_)))
  all_goals exact kVT h (by simp [binaryS, binaryT, hA, hB])
theorem twoOp5 (ak an bk bn : Int) {K : D → List Blk → Prop} (h : K (dVT (binaryS 5 ak an bk bn)) []) : DPure Tryd.prog 11 [dI 5, dV ak an, dV bk bn] K := by
  by_cases h2 : takK ak an = 2
  · by_cases h3 : takK bk bn = 2
    · exact twoOp5I ak an bk bn h2 h3 h
    · exact twoOp5B ak an bk bn h2 h3 h
  · by_cases h4 : takK ak an = 3
    · by_cases h3 : takK bk bn = 3
      · exact twoOp5F ak an bk bn h4 h3 h
      · exact twoOp5A ak an bk bn h4 h3 h
    · exact twoOp5C ak an bk bn h2 h4 h
set_option maxRecDepth 100000 in
set_option maxHeartbeats 2000000 in
theorem twoOp6A  (ak an bk bn : Int) (hA : takK ak an = 3) (hB : takK bk bn ≠ 3) {K : D → List Blk → Prop} (h : K (dVT (binaryS 6 ak an bk bn)) []) : DPure Tryd.prog 11 [dI 6, dV ak an, dV bk bn] K := by
  refine fn_ok [0,1,2,4,5,6,7,8,9,10,11,12,13,45,47,49,58,62,74,90,104,106,131,133,134,144,154,164] [(1, [0,1,0,7,15,31], (.seg 0 (.seg 2 (.eff 1 [2] (.eff 3 [0, 2] (.eff 4 [] (.eff 5 [] .last))))))), (2, [0,1,0,7,15,31], (.seg 0 (.seg 2 (.eff 1 [2] (.eff 3 [] (.seg 4 (.seg 5 .last))))))), (15, [0,1,0,4,15,0,32,0,128,480,31,2047], (.seg 0 (.seg 1 (.seg 2 (.seg 3 (.seg 4 (.seg 5 (.seg 6 (.seg 7 (.seg 8 (.seg 9 (.seg 10 (.seg 11 .last))))))))))))), (39, [0,1,0,4,0,16,60,0,128,508,1023,2047,4095,4095,16383,32767], (.seg 0 (.seg 1 (.seg 2 (.seg 3 (.seg 4 (.seg 5 (.seg 6 (.seg 7 (.seg 8 (.seg 9 (.seg 10 (.eff 11 [1, 3, 5, 8] (.seg 12 (.seg 13 (.eff 14 [] (.seg 15 .last)))))))))))))))))] Tryd.func11 rfl (by kernel_rfl) rfl rfl rfl rfl (by kernel_rfl) ?_
  simp
  refine takenR_ok _ _ ?_
  simp
  refine takenR_ok _ _ ?_
  simp
  refine floatOf_ok _ _ ?_
  simp
  refine floatOf_ok _ _ ?_
  simp (maxSteps := 1000000) [w0, w1, w2, w3, hA, hB, Ne.symm hB]
  repeat' (first | (refine alt (fun _ => ?_) (fun _ => ?_)) | (intro _) | (refine boolVal_ok _ ?_; simp) | (refine intVal_ok _ ?_; simp) | (refine floatVal_ok _ ?_; simp) | (refine And.intro (fun _ _ => ?_) (fun _ _ _ => ?_)))
  all_goals exact kVT h (by simp [binaryS, binaryT, hA, hB])
set_option maxRecDepth 100000 in
set_option maxHeartbeats 2000000 in
theorem twoOp6B  (ak an bk bn : Int) (hA : takK ak an = 2) (hB : takK bk bn ≠ 2) {K : D → List Blk → Prop} (h : K (dVT (binaryS 6 ak an bk bn)) []) : DPure Tryd.prog 11 [dI 6, dV ak an, dV bk bn] K := by
  refine fn_ok [0,1,2,4,5,6,7,8,9,10,11,12,13,45,47,49,58,62,74,90,104,106,131,133,134,144,154,164] [(1, [0,1,0,7,15,31], (.seg 0 (.seg 2 (.eff 1 [2] (.eff 3 [0, 2] (.eff 4 [] (.eff 5 [] .last))))))), (2, [0,1,0,7,15,31], (.seg 0 (.seg 2 (.eff 1 [2] (.eff 3 [] (.seg 4 (.seg 5 .last))))))), (15, [0,1,0,4,15,0,32,0,128,480,31,2047], (.seg 0 (.seg 1 (.seg 2 (.seg 3 (.seg 4 (.seg 5 (.seg 6 (.seg 7 (.seg 8 (.seg 9 (.seg 10 (.seg 11 .last))))))))))))), (39, [0,1,0,4,0,16,60,0,128,508,1023,2047,4095,4095,16383,32767], (.seg 0 (.seg 1 (.seg 2 (.seg 3 (.seg 4 (.seg 5 (.seg 6 (.seg 7 (.seg 8 (.seg 9 (.seg 10 (.eff 11 [1, 3, 5, 8] (.seg 12 (.seg 13 (.eff 14 [] (.seg 15 .last)))))))))))))))))] Tryd.func11 rfl (by kernel_rfl) rfl rfl rfl rfl (by kernel_rfl) ?_
  simp
  refine takenR_ok _ _ ?_
  simp
  refine takenR_ok _ _ ?_
  simp
  refine floatOf_ok _ _ ?_
  simp
  refine floatOf_ok _ _ ?_
  simp (maxSteps := 1000000) [w0, w1, w2, w3, hA, hB, Ne.symm hB]
  repeat' (first | (refine alt (fun _ => ?_) (fun _ => ?_)) | (intro _) | (refine boolVal_ok _ ?_; simp) | (refine intVal_ok _ ?_; simp) | (refine floatVal_ok _ ?_; simp) | (refine And.intro (fun _ _ => ?_) (fun _ _ _ => ?_)))
  all_goals exact kVT h (by simp [binaryS, binaryT, hA, hB])
set_option maxRecDepth 100000 in
set_option maxHeartbeats 2000000 in
theorem twoOp6C  (ak an bk bn : Int) (hA : takK ak an ≠ 2) (hB : takK ak an ≠ 3) {K : D → List Blk → Prop} (h : K (dVT (binaryS 6 ak an bk bn)) []) : DPure Tryd.prog 11 [dI 6, dV ak an, dV bk bn] K := by
  refine fn_ok [0,1,2,4,5,6,7,8,9,10,11,12,13,45,47,49,58,62,74,90,104,106,131,133,134,144,154,164] [(1, [0,1,0,7,15,31], (.seg 0 (.seg 2 (.eff 1 [2] (.eff 3 [0, 2] (.eff 4 [] (.eff 5 [] .last))))))), (2, [0,1,0,7,15,31], (.seg 0 (.seg 2 (.eff 1 [2] (.eff 3 [] (.seg 4 (.seg 5 .last))))))), (15, [0,1,0,4,15,0,32,0,128,480,31,2047], (.seg 0 (.seg 1 (.seg 2 (.seg 3 (.seg 4 (.seg 5 (.seg 6 (.seg 7 (.seg 8 (.seg 9 (.seg 10 (.seg 11 .last))))))))))))), (39, [0,1,0,4,0,16,60,0,128,508,1023,2047,4095,4095,16383,32767], (.seg 0 (.seg 1 (.seg 2 (.seg 3 (.seg 4 (.seg 5 (.seg 6 (.seg 7 (.seg 8 (.seg 9 (.seg 10 (.eff 11 [1, 3, 5, 8] (.seg 12 (.seg 13 (.eff 14 [] (.seg 15 .last)))))))))))))))))] Tryd.func11 rfl (by kernel_rfl) rfl rfl rfl rfl (by kernel_rfl) ?_
  simp
  refine takenR_ok _ _ ?_
  simp
  refine takenR_ok _ _ ?_
  simp
  refine floatOf_ok _ _ ?_
  simp
  refine floatOf_ok _ _ ?_
  simp (maxSteps := 1000000) [w0, w1, w2, w3, hA, hB]
  repeat' (first | (refine alt (fun _ => ?_) (fun _ => ?_)) | (intro _) | (refine boolVal_ok _ ?_; simp) | (refine intVal_ok _ ?_; simp) | (refine floatVal_ok _ ?_; simp) | (refine And.intro (fun _ _ => ?_) (fun _ _ _ => ?_)))
  all_goals exact kVT h (by simp [binaryS, binaryT, hA, hB])
theorem twoOp6 (ak an bk bn : Int) {K : D → List Blk → Prop} (h : K (dVT (binaryS 6 ak an bk bn)) []) : DPure Tryd.prog 11 [dI 6, dV ak an, dV bk bn] K := by
  by_cases h2 : takK ak an = 2
  · by_cases h3 : takK bk bn = 2
    · exact twoOp6I ak an bk bn h2 h3 h
    · exact twoOp6B ak an bk bn h2 h3 h
  · by_cases h4 : takK ak an = 3
    · by_cases h3 : takK bk bn = 3
      · exact twoOp6F ak an bk bn h4 h3 h
      · exact twoOp6A ak an bk bn h4 h3 h
    · exact twoOp6C ak an bk bn h2 h4 h
set_option maxRecDepth 100000 in
set_option maxHeartbeats 2000000 in
theorem twoOp7A  (ak an bk bn : Int) (hA : takK ak an = 3) (hB : takK bk bn ≠ 3) {K : D → List Blk → Prop} (h : K (dVT (binaryS 7 ak an bk bn)) []) : DPure Tryd.prog 11 [dI 7, dV ak an, dV bk bn] K := by
  refine fn_ok [0,1,2,4,5,6,7,8,9,10,11,12,13,45,47,49,58,62,74,90,104,106,131,133,134,144,154,164] [(1, [0,1,0,7,15,31], (.seg 0 (.seg 2 (.eff 1 [2] (.eff 3 [0, 2] (.eff 4 [] (.eff 5 [] .last))))))), (2, [0,1,0,7,15,31], (.seg 0 (.seg 2 (.eff 1 [2] (.eff 3 [] (.seg 4 (.seg 5 .last))))))), (15, [0,1,0,4,15,0,32,0,128,480,31,2047], (.seg 0 (.seg 1 (.seg 2 (.seg 3 (.seg 4 (.seg 5 (.seg 6 (.seg 7 (.seg 8 (.seg 9 (.seg 10 (.seg 11 .last))))))))))))), (39, [0,1,0,4,0,16,60,0,128,508,1023,2047,4095,4095,16383,32767], (.seg 0 (.seg 1 (.seg 2 (.seg 3 (.seg 4 (.seg 5 (.seg 6 (.seg 7 (.seg 8 (.seg 9 (.seg 10 (.eff 11 [1, 3, 5, 8] (.seg 12 (.seg 13 (.eff 14 [] (.seg 15 .last)))))))))))))))))] Tryd.func11 rfl (by kernel_rfl) rfl rfl rfl rfl (by kernel_rfl) ?_
  simp
  refine takenR_ok _ _ ?_
  simp
  refine takenR_ok _ _ ?_
  simp
  refine floatOf_ok _ _ ?_
  simp
  refine floatOf_ok _ _ ?_
  simp (maxSteps := 1000000) [w0, w1, w2, w3, hA, hB, Ne.symm hB]
  repeat' (first | (refine alt (fun _ => ?_) (fun _ => ?_)) | (intro _) | (refine boolVal_ok _ ?_; simp) | (refine intVal_ok _ ?_; simp) | (refine floatVal_ok _ ?_; simp) | (refine And.intro (fun _ _ => ?_) (fun _ _ _ => ?_)))
  all_goals exact kVT h (by simp [binaryS, binaryT, hA, hB])
set_option maxRecDepth 100000 in
set_option maxHeartbeats 2000000 in
theorem twoOp7B  (ak an bk bn : Int) (hA : takK ak an = 2) (hB : takK bk bn ≠ 2) {K : D → List Blk → Prop} (h : K (dVT (binaryS 7 ak an bk bn)) []) : DPure Tryd.prog 11 [dI 7, dV ak an, dV bk bn] K := by
  refine fn_ok [0,1,2,4,5,6,7,8,9,10,11,12,13,45,47,49,58,62,74,90,104,106,131,133,134,144,154,164] [(1, [0,1,0,7,15,31], (.seg 0 (.seg 2 (.eff 1 [2] (.eff 3 [0, 2] (.eff 4 [] (.eff 5 [] .last))))))), (2, [0,1,0,7,15,31], (.seg 0 (.seg 2 (.eff 1 [2] (.eff 3 [] (.seg 4 (.seg 5 .last))))))), (15, [0,1,0,4,15,0,32,0,128,480,31,2047], (.seg 0 (.seg 1 (.seg 2 (.seg 3 (.seg 4 (.seg 5 (.seg 6 (.seg 7 (.seg 8 (.seg 9 (.seg 10 (.seg 11 .last))))))))))))), (39, [0,1,0,4,0,16,60,0,128,508,1023,2047,4095,4095,16383,32767], (.seg 0 (.seg 1 (.seg 2 (.seg 3 (.seg 4 (.seg 5 (.seg 6 (.seg 7 (.seg 8 (.seg 9 (.seg 10 (.eff 11 [1, 3, 5, 8] (.seg 12 (.seg 13 (.eff 14 [] (.seg 15 .last)))))))))))))))))] Tryd.func11 rfl (by kernel_rfl) rfl rfl rfl rfl (by kernel_rfl) ?_
  simp
  refine takenR_ok _ _ ?_
  simp
  refine takenR_ok _ _ ?_
  simp
  refine floatOf_ok _ _ ?_
  simp
  refine floatOf_ok _ _ ?_
  simp (maxSteps := 1000000) [w0, w1, w2, w3, hA, hB, Ne.symm hB]
  repeat' (first | (refine alt (fun _ => ?_) (fun _ => ?_)) | (intro _) | (refine boolVal_ok _ ?_; simp) | (refine intVal_ok _ ?_; simp) | (refine floatVal_ok _ ?_; simp) | (refine And.intro (fun _ _ => ?_) (fun _ _ _ => ?_)))
  all_goals exact kVT h (by simp [binaryS, binaryT, hA, hB])
set_option maxRecDepth 100000 in
set_option maxHeartbeats 2000000 in
theorem twoOp7C  (ak an bk bn : Int) (hA : takK ak an ≠ 2) (hB : takK ak an ≠ 3) {K : D → List Blk → Prop} (h : K (dVT (binaryS 7 ak an bk bn)) []) : DPure Tryd.prog 11 [dI 7, dV ak an, dV bk bn] K := by
  refine fn_ok [0,1,2,4,5,6,7,8,9,10,11,12,13,45,47,49,58,62,74,90,104,106,131,133,134,144,154,164] [(1, [0,1,0,7,15,31], (.seg 0 (.seg 2 (.eff 1 [2] (.eff 3 [0, 2] (.eff 4 [] (.eff 5 [] .last))))))), (2, [0,1,0,7,15,31], (.seg 0 (.seg 2 (.eff 1 [2] (.eff 3 [] (.seg 4 (.seg 5 .last))))))), (15, [0,1,0,4,15,0,32,0,128,480,31,2047], (.seg 0 (.seg 1 (.seg 2 (.seg 3 (.seg 4 (.seg 5 (.seg 6 (.seg 7 (.seg 8 (.seg 9 (.seg 10 (.seg 11 .last))))))))))))), (39, [0,1,0,4,0,16,60,0,128,508,1023,2047,4095,4095,16383,32767], (.seg 0 (.seg 1 (.seg 2 (.seg 3 (.seg 4 (.seg 5 (.seg 6 (.seg 7 (.seg 8 (.seg 9 (.seg 10 (.eff 11 [1, 3, 5, 8] (.seg 12 (.seg 13 (.eff 14 [] (.seg 15 .last)))))))))))))))))] Tryd.func11 rfl (by kernel_rfl) rfl rfl rfl rfl (by kernel_rfl) ?_
  simp
  refine takenR_ok _ _ ?_
  simp
  refine takenR_ok _ _ ?_
  simp
  refine floatOf_ok _ _ ?_
  simp
  refine floatOf_ok _ _ ?_
  simp (maxSteps := 1000000) [w0, w1, w2, w3, hA, hB]
  repeat' (first | (refine alt (fun _ => ?_) (fun _ => ?_)) | (intro _) | (refine boolVal_ok _ ?_; simp) | (refine intVal_ok _ ?_; simp) | (refine floatVal_ok _ ?_; simp) | (refine And.intro (fun _ _ => ?_) (fun _ _ _ => ?_)))
  all_goals exact kVT h (by simp [binaryS, binaryT, hA, hB])
theorem twoOp7 (ak an bk bn : Int) {K : D → List Blk → Prop} (h : K (dVT (binaryS 7 ak an bk bn)) []) : DPure Tryd.prog 11 [dI 7, dV ak an, dV bk bn] K := by
  by_cases h2 : takK ak an = 2
  · by_cases h3 : takK bk bn = 2
    · exact twoOp7I ak an bk bn h2 h3 h
    · exact twoOp7B ak an bk bn h2 h3 h
  · by_cases h4 : takK ak an = 3
    · by_cases h3 : takK bk bn = 3
      · exact twoOp7F ak an bk bn h4 h3 h
      · exact twoOp7A ak an bk bn h4 h3 h
    · exact twoOp7C ak an bk bn h2 h4 h
end Go.Proofs.YtalippdhfkpbmaaDoor
