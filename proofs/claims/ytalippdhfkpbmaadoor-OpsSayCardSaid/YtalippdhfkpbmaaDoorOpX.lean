/- What the document answers of two values: the contract, whole. -/
import Derived.Test.YtalippdhfkpbmaaDoorOpW
namespace Go.Proofs.YtalippdhfkpbmaaDoor
open Go.RowKit Go
set_option linter.unusedSimpArgs false
set_option maxRecDepth 100000 in
set_option maxHeartbeats 2000000 in
theorem twoOp9F  (ak an bk bn : Int) (hA : takK ak an = 3) (hB : takK bk bn = 3) {K : D → List Blk → Prop} (h : K (dVT (binaryS 9 ak an bk bn)) []) : DPure Tryd.prog 11 [dI 9, dV ak an, dV bk bn] K := by
  refine fn_ok [0,1,2,4,5,6,7,8,9,10,11,12,13,45,47,49,58,62,74,90,104,106,131,133,134,144,154,164] [(1, [0,1,0,7,15,31], (.seg 0 (.seg 2 (.eff 1 [2] (.eff 3 [0, 2] (.eff 4 [] (.eff 5 [] .last))))))), (2, [0,1,0,7,15,31], (.seg 0 (.seg 2 (.eff 1 [2] (.eff 3 [] (.seg 4 (.seg 5 .last))))))), (15, [0,1,0,4,15,0,32,0,128,480,31,2047], (.seg 0 (.seg 1 (.seg 2 (.seg 3 (.seg 4 (.seg 5 (.seg 6 (.seg 7 (.seg 8 (.seg 9 (.seg 10 (.seg 11 .last))))))))))))), (39, [0,1,0,4,0,16,60,0,128,508,1023,2047,4095,4095,16383,32767], (.seg 0 (.seg 1 (.seg 2 (.seg 3 (.seg 4 (.seg 5 (.seg 6 (.seg 7 (.seg 8 (.seg 9 (.seg 10 (.eff 11 [1, 3, 5, 8] (.seg 12 (.seg 13 (.eff 14 [] (.seg 15 .last)))))))))))))))))] Tryd.func11 rfl (by kernel_rfl) rfl rfl rfl rfl (by kernel_rfl) ?_
  simp
  refine takenR_ok _ _ ?_
  simp
  refine takenR_ok _ _ ?_
  simp
  refine floatOf_ok _ _ ?_
  simp
  refine floatOf_ok _ _ ?_
  simp (maxSteps := 1000000) [w0, w1, w2, w3, hA, hB]
  repeat' (first | (refine alt (fun _ => ?_) (fun _ => ?_)) | (intro _) | (refine boolVal_ok _ ?_; simp) | (refine intVal_ok _ ?_; simp) | (refine floatVal_ok _ ?_; simp) | (refine And.intro (fun _ _ => ?_) (fun _ _ _ => ?_)))
  all_goals (refine kVT h ?_; simp [binaryS, binaryT, hA, hB, floatsS, orderedF, less, same]; congr 1; simp_all)
set_option maxRecDepth 100000 in
set_option maxHeartbeats 2000000 in
theorem twoOp10F  (ak an bk bn : Int) (hA : takK ak an = 3) (hB : takK bk bn = 3) {K : D → List Blk → Prop} (h : K (dVT (binaryS 10 ak an bk bn)) []) : DPure Tryd.prog 11 [dI 10, dV ak an, dV bk bn] K := by
  refine fn_ok [0,1,2,4,5,6,7,8,9,10,11,12,13,45,47,49,58,62,74,90,104,106,131,133,134,144,154,164] [(1, [0,1,0,7,15,31], (.seg 0 (.seg 2 (.eff 1 [2] (.eff 3 [0, 2] (.eff 4 [] (.eff 5 [] .last))))))), (2, [0,1,0,7,15,31], (.seg 0 (.seg 2 (.eff 1 [2] (.eff 3 [] (.seg 4 (.seg 5 .last))))))), (15, [0,1,0,4,15,0,32,0,128,480,31,2047], (.seg 0 (.seg 1 (.seg 2 (.seg 3 (.seg 4 (.seg 5 (.seg 6 (.seg 7 (.seg 8 (.seg 9 (.seg 10 (.seg 11 .last))))))))))))), (39, [0,1,0,4,0,16,60,0,128,508,1023,2047,4095,4095,16383,32767], (.seg 0 (.seg 1 (.seg 2 (.seg 3 (.seg 4 (.seg 5 (.seg 6 (.seg 7 (.seg 8 (.seg 9 (.seg 10 (.eff 11 [1, 3, 5, 8] (.seg 12 (.seg 13 (.eff 14 [] (.seg 15 .last)))))))))))))))))] Tryd.func11 rfl (by kernel_rfl) rfl rfl rfl rfl (by kernel_rfl) ?_
  simp
  refine takenR_ok _ _ ?_
  simp
  refine takenR_ok _ _ ?_
  simp
  refine floatOf_ok _ _ ?_
  simp
  refine floatOf_ok _ _ ?_
  simp (maxSteps := 1000000) [w0, w1, w2, w3, hA, hB]
  repeat' (first | (refine alt (fun _ => ?_) (fun _ => ?_)) | (intro _) | (refine boolVal_ok _ ?_; simp) | (refine intVal_ok _ ?_; simp) | (refine floatVal_ok _ ?_; simp) | (refine And.intro (fun _ _ => ?_) (fun _ _ _ => ?_)))
  all_goals (refine kVT h ?_; simp [binaryS, binaryT, hA, hB, floatsS, orderedF, less, same]; congr 1; rw [Bool.eq_iff_iff]; simp_all)
set_option maxRecDepth 100000 in
set_option maxHeartbeats 2000000 in
theorem twoOp9I  (ak an bk bn : Int) (hA : takK ak an = 2) (hB : takK bk bn = 2) {K : D → List Blk → Prop} (h : K (dVT (binaryS 9 ak an bk bn)) []) : DPure Tryd.prog 11 [dI 9, dV ak an, dV bk bn] K := by
  refine fn_ok [0,1,2,4,5,6,7,8,9,10,11,12,13,45,47,49,58,62,74,90,104,106,131,133,134,144,154,164] [(1, [0,1,0,7,15,31], (.seg 0 (.seg 2 (.eff 1 [2] (.eff 3 [0, 2] (.eff 4 [] (.eff 5 [] .last))))))), (2, [0,1,0,7,15,31], (.seg 0 (.seg 2 (.eff 1 [2] (.eff 3 [] (.seg 4 (.seg 5 .last))))))), (15, [0,1,0,4,15,0,32,0,128,480,31,2047], (.seg 0 (.seg 1 (.seg 2 (.seg 3 (.seg 4 (.seg 5 (.seg 6 (.seg 7 (.seg 8 (.seg 9 (.seg 10 (.seg 11 .last))))))))))))), (39, [0,1,0,4,0,16,60,0,128,508,1023,2047,4095,4095,16383,32767], (.seg 0 (.seg 1 (.seg 2 (.seg 3 (.seg 4 (.seg 5 (.seg 6 (.seg 7 (.seg 8 (.seg 9 (.seg 10 (.eff 11 [1, 3, 5, 8] (.seg 12 (.seg 13 (.eff 14 [] (.seg 15 .last)))))))))))))))))] Tryd.func11 rfl (by kernel_rfl) rfl rfl rfl rfl (by kernel_rfl) ?_
  simp
  refine takenR_ok _ _ ?_
  simp
  refine takenR_ok _ _ ?_
  simp
  refine floatOf_ok _ _ ?_
  simp
  refine floatOf_ok _ _ ?_
  simp (maxSteps := 1000000) [w0, w1, w2, w3, hA, hB]
  repeat' (first | (refine alt (fun _ => ?_) (fun _ => ?_)) | (intro _) | (refine boolVal_ok _ ?_; simp) | (refine intVal_ok _ ?_; simp) | (refine floatVal_ok _ ?_; simp) | (refine And.intro (fun _ _ => ?_) (fun _ _ _ => ?_)))
  all_goals (refine kVT h ?_; simp [binaryS, binaryT, hA, hB, wholesS, orderedI]; congr 1; rw [Bool.eq_iff_iff]; simp; omega)
set_option maxRecDepth 100000 in
set_option maxHeartbeats 2000000 in
theorem twoOp10I  (ak an bk bn : Int) (hA : takK ak an = 2) (hB : takK bk bn = 2) {K : D → List Blk → Prop} (h : K (dVT (binaryS 10 ak an bk bn)) []) : DPure Tryd.prog 11 [dI 10, dV ak an, dV bk bn] K := by
  refine fn_ok [0,1,2,4,5,6,7,8,9,10,11,12,13,45,47,49,58,62,74,90,104,106,131,133,134,144,154,164] [(1, [0,1,0,7,15,31], (.seg 0 (.seg 2 (.eff 1 [2] (.eff 3 [0, 2] (.eff 4 [] (.eff 5 [] .last))))))), (2, [0,1,0,7,15,31], (.seg 0 (.seg 2 (.eff 1 [2] (.eff 3 [] (.seg 4 (.seg 5 .last))))))), (15, [0,1,0,4,15,0,32,0,128,480,31,2047], (.seg 0 (.seg 1 (.seg 2 (.seg 3 (.seg 4 (.seg 5 (.seg 6 (.seg 7 (.seg 8 (.seg 9 (.seg 10 (.seg 11 .last))))))))))))), (39, [0,1,0,4,0,16,60,0,128,508,1023,2047,4095,4095,16383,32767], (.seg 0 (.seg 1 (.seg 2 (.seg 3 (.seg 4 (.seg 5 (.seg 6 (.seg 7 (.seg 8 (.seg 9 (.seg 10 (.eff 11 [1, 3, 5, 8] (.seg 12 (.seg 13 (.eff 14 [] (.seg 15 .last)))))))))))))))))] Tryd.func11 rfl (by kernel_rfl) rfl rfl rfl rfl (by kernel_rfl) ?_
  simp
  refine takenR_ok _ _ ?_
  simp
  refine takenR_ok _ _ ?_
  simp
  refine floatOf_ok _ _ ?_
  simp
  refine floatOf_ok _ _ ?_
  simp (maxSteps := 1000000) [w0, w1, w2, w3, hA, hB]
  repeat' (first | (refine alt (fun _ => ?_) (fun _ => ?_)) | (intro _) | (refine boolVal_ok _ ?_; simp) | (refine intVal_ok _ ?_; simp) | (refine floatVal_ok _ ?_; simp) | (refine And.intro (fun _ _ => ?_) (fun _ _ _ => ?_)))
  all_goals (refine kVT h ?_; simp [binaryS, binaryT, hA, hB, wholesS, orderedI]; congr 1; rw [Bool.eq_iff_iff]; simp; omega)
set_option maxRecDepth 100000 in
set_option maxHeartbeats 2000000 in
theorem twoOp9A  (ak an bk bn : Int) (hA : takK ak an = 3) (hB : takK bk bn ≠ 3) {K : D → List Blk → Prop} (h : K (dVT (binaryS 9 ak an bk bn)) []) : DPure Tryd.prog 11 [dI 9, dV ak an, dV bk bn] K := by
  refine fn_ok [0,1,2,4,5,6,7,8,9,10,11,12,13,45,47,49,58,62,74,90,104,106,131,133,134,144,154,164] [(1, [0,1,0,7,15,31], (.seg 0 (.seg 2 (.eff 1 [2] (.eff 3 [0, 2] (.eff 4 [] (.eff 5 [] .last))))))), (2, [0,1,0,7,15,31], (.seg 0 (.seg 2 (.eff 1 [2] (.eff 3 [] (.seg 4 (.seg 5 .last))))))), (15, [0,1,0,4,15,0,32,0,128,480,31,2047], (.seg 0 (.seg 1 (.seg 2 (.seg 3 (.seg 4 (.seg 5 (.seg 6 (.seg 7 (.seg 8 (.seg 9 (.seg 10 (.seg 11 .last))))))))))))), (39, [0,1,0,4,0,16,60,0,128,508,1023,2047,4095,4095,16383,32767], (.seg 0 (.seg 1 (.seg 2 (.seg 3 (.seg 4 (.seg 5 (.seg 6 (.seg 7 (.seg 8 (.seg 9 (.seg 10 (.eff 11 [1, 3, 5, 8] (.seg 12 (.seg 13 (.eff 14 [] (.seg 15 .last)))))))))))))))))] Tryd.func11 rfl (by kernel_rfl) rfl rfl rfl rfl (by kernel_rfl) ?_
  simp
  refine takenR_ok _ _ ?_
  simp
  refine takenR_ok _ _ ?_
  simp
  refine floatOf_ok _ _ ?_
  simp
  refine floatOf_ok _ _ ?_
  simp (maxSteps := 1000000) [w0, w1, w2, w3, hA, hB, Ne.symm hB]
  repeat' (first | (refine alt (fun _ => ?_) (fun _ => ?_)) | (intro _) | (refine boolVal_ok _ ?_; simp) | (refine intVal_ok _ ?_; simp) | (refine floatVal_ok _ ?_; simp) | (refine And.intro (fun _ _ => ?_) (fun _ _ _ => ?_)))
  all_goals exact kVT h (by simp [binaryS, binaryT, hA, hB])
set_option maxRecDepth 100000 in
set_option maxHeartbeats 2000000 in
theorem twoOp9B  (ak an bk bn : Int) (hA : takK ak an = 2) (hB : takK bk bn ≠ 2) {K : D → List Blk → Prop} (h : K (dVT (binaryS 9 ak an bk bn)) []) : DPure Tryd.prog 11 [dI 9, dV ak an, dV bk bn] K := by
  refine fn_ok [0,1,2,4,5,6,7,8,9,10,11,12,13,45,47,49,58,62,74,90,104,106,131,133,134,144,154,164] [(1, [0,1,0,7,15,31], (.seg 0 (.seg 2 (.eff 1 [2] (.eff 3 [0, 2] (.eff 4 [] (.eff 5 [] .last))))))), (2, [0,1,0,7,15,31], (.seg 0 (.seg 2 (.eff 1 [2] (.eff 3 [] (.seg 4 (.seg 5 .last))))))), (15, [0,1,0,4,15,0,32,0,128,480,31,2047], (.seg 0 (.seg 1 (.seg 2 (.seg 3 (.seg 4 (.seg 5 (.seg 6 (.seg 7 (.seg 8 (.seg 9 (.seg 10 (.seg 11 .last))))))))))))), (39, [0,1,0,4,0,16,60,0,128,508,1023,2047,4095,4095,16383,32767], (.seg 0 (.seg 1 (.seg 2 (.seg 3 (.seg 4 (.seg 5 (.seg 6 (.seg 7 (.seg 8 (.seg 9 (.seg 10 (.eff 11 [1, 3, 5, 8] (.seg 12 (.seg 13 (.eff 14 [] (.seg 15 .last)))))))))))))))))] Tryd.func11 rfl (by kernel_rfl) rfl rfl rfl rfl (by kernel_rfl) ?_
  simp
  refine takenR_ok _ _ ?_
  simp
  refine takenR_ok _ _ ?_
  simp
  refine floatOf_ok _ _ ?_
  simp
  refine floatOf_ok _ _ ?_
  simp (maxSteps := 1000000) [w0, w1, w2, w3, hA, hB, Ne.symm hB]
  repeat' (first | (refine alt (fun _ => ?_) (fun _ => ?_)) | (intro _) | (refine boolVal_ok _ ?_; simp) | (refine intVal_ok _ ?_; simp) | (refine floatVal_ok _ ?_; simp) | (refine And.intro (fun _ _ => ?_) (fun _ _ _ => ?_)))
  all_goals exact kVT h (by simp [binaryS, binaryT, hA, hB])
set_option maxRecDepth 100000 in
set_option maxHeartbeats 2000000 in
theorem twoOp9C  (ak an bk bn : Int) (hA : takK ak an ≠ 2) (hB : takK ak an ≠ 3) {K : D → List Blk → Prop} (h : K (dVT (binaryS 9 ak an bk bn)) []) : DPure Tryd.prog 11 [dI 9, dV ak an, dV bk bn] K := by
  refine fn_ok [0,1,2,4,5,6,7,8,9,10,11,12,13,45,47,49,58,62,74,90,104,106,131,133,134,144,154,164] [(1, [0,1,0,7,15,31], (.seg 0 (.seg 2 (.eff 1 [2] (.eff 3 [0, 2] (.eff 4 [] (.eff 5 [] .last))))))), (2, [0,1,0,7,15,31], (.seg 0 (.seg 2 (.eff 1 [2] (.eff 3 [] (.seg 4 (.seg 5 .last))))))), (15, [0,1,0,4,15,0,32,0,128,480,31,2047], (.seg 0 (.seg 1 (.seg 2 (.seg 3 (.seg 4 (.seg 5 (.seg 6 (.seg 7 (.seg 8 (.seg 9 (.seg 10 (.seg 11 .last))))))))))))), (39, [0,1,0,4,0,16,60,0,128,508,1023,2047,4095,4095,16383,32767], (.seg 0 (.seg 1 (.seg 2 (.seg 3 (.seg 4 (.seg 5 (.seg 6 (.seg 7 (.seg 8 (.seg 9 (.seg 10 (.eff 11 [1, 3, 5, 8] (.seg 12 (.seg 13 (.eff 14 [] (.seg 15 .last)))))))))))))))))] Tryd.func11 rfl (by kernel_rfl) rfl rfl rfl rfl (by kernel_rfl) ?_
  simp
  refine takenR_ok _ _ ?_
  simp
  refine takenR_ok _ _ ?_
  simp
  refine floatOf_ok _ _ ?_
  simp
  refine floatOf_ok _ _ ?_
  simp (maxSteps := 1000000) [w0, w1, w2, w3, hA, hB]
  repeat' (first | (refine alt (fun _ => ?_) (fun _ => ?_)) | (intro _) | (refine boolVal_ok _ ?_; simp) | (refine intVal_ok _ ?_; simp) | (refine floatVal_ok _ ?_; simp) | (refine And.intro (fun _ _ => ?_) (fun _ _ _ => ?_)))
  all_goals exact kVT h (by simp [binaryS, binaryT, hA, hB])
theorem twoOp9 (ak an bk bn : Int) {K : D → List Blk → Prop} (h : K (dVT (binaryS 9 ak an bk bn)) []) : DPure Tryd.prog 11 [dI 9, dV ak an, dV bk bn] K := by
  by_cases h2 : takK ak an = 2
  · by_cases h3 : takK bk bn = 2
    · exact twoOp9I ak an bk bn h2 h3 h
    · exact twoOp9B ak an bk bn h2 h3 h
  · by_cases h4 : takK ak an = 3
    · by_cases h3 : takK bk bn = 3
      · exact twoOp9F ak an bk bn h4 h3 h
      · exact twoOp9A ak an bk bn h4 h3 h
    · exact twoOp9C ak an bk bn h2 h4 h
set_option maxRecDepth 100000 in
set_option maxHeartbeats 2000000 in
theorem twoOp10A  (ak an bk bn : Int) (hA : takK ak an = 3) (hB : takK bk bn ≠ 3) {K : D → List Blk → Prop} (h : K (dVT (binaryS 10 ak an bk bn)) []) : DPure Tryd.prog 11 [dI 10, dV ak an, dV bk bn] K := by
  refine fn_ok [0,1,2,4,5,6,7,8,9,10,11,12,13,45,47,49,58,62,74,90,104,106,131,133,134,144,154,164] [(1, [0,1,0,7,15,31], (.seg 0 (.seg 2 (.eff 1 [2] (.eff 3 [0, 2] (.eff 4 [] (.eff 5 [] .last))))))), (2, [0,1,0,7,15,31], (.seg 0 (.seg 2 (.eff 1 [2] (.eff 3 [] (.seg 4 (.seg 5 .last))))))), (15, [0,1,0,4,15,0,32,0,128,480,31,2047], (.seg 0 (.seg 1 (.seg 2 (.seg 3 (.seg 4 (.seg 5 (.seg 6 (.seg 7 (.seg 8 (.seg 9 (.seg 10 (.seg 11 .last))))))))))))), (39, [0,1,0,4,0,16,60,0,128,508,1023,2047,4095,4095,16383,32767], (.seg 0 (.seg 1 (.seg 2 (.seg 3 (.seg 4 (.seg 5 (.seg 6 (.seg 7 (.seg 8 (.seg 9 (.seg 10 (.eff 11 [1, 3, 5, 8] (.seg 12 (.seg 13 (.eff 14 [] (.seg 15 .last)))))))))))))))))] Tryd.func11 rfl (by kernel_rfl) rfl rfl rfl rfl (by kernel_rfl) ?_
  simp
  refine takenR_ok _ _ ?_
  simp
  refine takenR_ok _ _ ?_
  simp
  refine floatOf_ok _ _ ?_
  simp
  refine floatOf_ok _ _ ?_
  simp (maxSteps := 1000000) [w0, w1, w2, w3, hA, hB, Ne.symm hB]
  repeat' (first | (refine alt (fun _ => ?_) (fun _ => ?_)) | (intro _) | (refine boolVal_ok _ ?_; simp) | (refine intVal_ok _ ?_; simp) | (refine floatVal_ok _ ?_; simp) | (refine And.intro (fun _ _ => ?_) (fun _ _ _ => ?_)))
  all_goals exact kVT h (by simp [binaryS, binaryT, hA, hB])
set_option maxRecDepth 100000 in
set_option maxHeartbeats 2000000 in
theorem twoOp10B  (ak an bk bn : Int) (hA : takK ak an = 2) (hB : takK bk bn ≠ 2) {K : D → List Blk → Prop} (h : K (dVT (binaryS 10 ak an bk bn)) []) : DPure Tryd.prog 11 [dI 10, dV ak an, dV bk bn] K := by
  refine fn_ok [0,1,2,4,5,6,7,8,9,10,11,12,13,45,47,49,58,62,74,90,104,106,131,133,134,144,154,164] [(1, [0,1,0,7,15,31], (.seg 0 (.seg 2 (.eff 1 [2] (.eff 3 [0, 2] (.eff 4 [] (.eff 5 [] .last))))))), (2, [0,1,0,7,15,31], (.seg 0 (.seg 2 (.eff 1 [2] (.eff 3 [] (.seg 4 (.seg 5 .last))))))), (15, [0,1,0,4,15,0,32,0,128,480,31,2047], (.seg 0 (.seg 1 (.seg 2 (.seg 3 (.seg 4 (.seg 5 (.seg 6 (.seg 7 (.seg 8 (.seg 9 (.seg 10 (.seg 11 .last))))))))))))), (39, [0,1,0,4,0,16,60,0,128,508,1023,2047,4095,4095,16383,32767], (.seg 0 (.seg 1 (.seg 2 (.seg 3 (.seg 4 (.seg 5 (.seg 6 (.seg 7 (.seg 8 (.seg 9 (.seg 10 (.eff 11 [1, 3, 5, 8] (.seg 12 (.seg 13 (.eff 14 [] (.seg 15 .last)))))))))))))))))] Tryd.func11 rfl (by kernel_rfl) rfl rfl rfl rfl (by kernel_rfl) ?_
  simp
  refine takenR_ok _ _ ?_
  simp
  refine takenR_ok _ _ ?_
  simp
  refine floatOf_ok _ _ ?_
  simp
  refine floatOf_ok _ _ ?_
  simp (maxSteps := 1000000) [w0, w1, w2, w3, hA, hB, Ne.symm hB]
  repeat' (first | (refine alt (fun _ => ?_) (fun _ => ?_)) | (intro _) | (refine boolVal_ok _ ?_; simp) | (refine intVal_ok _ ?_; simp) | (refine floatVal_ok _ ?_; simp) | (refine And.intro (fun _ _ => ?_) (fun _ _ _ => ?_)))
  all_goals exact kVT h (by simp [binaryS, binaryT, hA, hB])
set_option maxRecDepth 100000 in
set_option maxHeartbeats 2000000 in
theorem twoOp10C  (ak an bk bn : Int) (hA : takK ak an ≠ 2) (hB : takK ak an ≠ 3) {K : D → List Blk → Prop} (h : K (dVT (binaryS 10 ak an bk bn)) []) : DPure Tryd.prog 11 [dI 10, dV ak an, dV bk bn] K := by
  refine fn_ok [0,1,2,4,5,6,7,8,9,10,11,12,13,45,47,49,58,62,74,90,104,106,131,133,134,144,154,164] [(1, [0,1,0,7,15,31], (.seg 0 (.seg 2 (.eff 1 [2] (.eff 3 [0, 2] (.eff 4 [] (.eff 5 [] .last))))))), (2, [0,1,0,7,15,31], (.seg 0 (.seg 2 (.eff 1 [2] (.eff 3 [] (.seg 4 (.seg 5 .last))))))), (15, [0,1,0,4,15,0,32,0,128,480,31,2047], (.seg 0 (.seg 1 (.seg 2 (.seg 3 (.seg 4 (.seg 5 (.seg 6 (.seg 7 (.seg 8 (.seg 9 (.seg 10 (.seg 11 .last))))))))))))), (39, [0,1,0,4,0,16,60,0,128,508,1023,2047,4095,4095,16383,32767], (.seg 0 (.seg 1 (.seg 2 (.seg 3 (.seg 4 (.seg 5 (.seg 6 (.seg 7 (.seg 8 (.seg 9 (.seg 10 (.eff 11 [1, 3, 5, 8] (.seg 12 (.seg 13 (.eff 14 [] (.seg 15 .last)))))))))))))))))] Tryd.func11 rfl (by kernel_rfl) rfl rfl rfl rfl (by kernel_rfl) ?_
  simp
  refine takenR_ok _ _ ?_
  simp
  refine takenR_ok _ _ ?_
  simp
  refine floatOf_ok _ _ ?_
  simp
  refine floatOf_ok _ _ ?_
  simp (maxSteps := 1000000) [w0, w1, w2, w3, hA, hB]
  repeat' (first | (refine alt (fun _ => ?_) (fun _ => ?_)) | (intro _) | (refine boolVal_ok _ ?_; simp) | (refine intVal_ok _ ?_; simp) | (refine floatVal_ok _ ?_; simp) | (refine And.intro (fun _ _ => ?_) (fun _ _ _ => ?_)))
  all_goals exact kVT h (by simp [binaryS, binaryT, hA, hB])
theorem twoOp10 (ak an bk bn : Int) {K : D → List Blk → Prop} (h : K (dVT (binaryS 10 ak an bk bn)) []) : DPure Tryd.prog 11 [dI 10, dV ak an, dV bk bn] K := by
  by_cases h2 : takK ak an = 2
  · by_cases h3 : takK bk bn = 2
    · exact twoOp10I ak an bk bn h2 h3 h
    · exact twoOp10B ak an bk bn h2 h3 h
  · by_cases h4 : takK ak an = 3
    · by_cases h3 : takK bk bn = 3
      · exact twoOp10F ak an bk bn h4 h3 h
      · exact twoOp10A ak an bk bn h4 h3 h
    · exact twoOp10C ak an bk bn h2 h4 h
set_option maxRecDepth 100000 in
set_option maxHeartbeats 2000000 in
theorem twoOp8  (ak an bk bn : Int)  {K : D → List Blk → Prop} (h : K (dVT (binaryS 8 ak an bk bn)) []) : DPure Tryd.prog 11 [dI 8, dV ak an, dV bk bn] K := by
  refine fn_ok [0,1,2,4,5,6,7,8,9,10,11,12,13,45,47,49,58,62,74,90,104,106,131,133,134,144,154,164] [(1, [0,1,0,7,15,31], (.seg 0 (.seg 2 (.eff 1 [2] (.eff 3 [0, 2] (.eff 4 [] (.eff 5 [] .last))))))), (2, [0,1,0,7,15,31], (.seg 0 (.seg 2 (.eff 1 [2] (.eff 3 [] (.seg 4 (.seg 5 .last))))))), (15, [0,1,0,4,15,0,32,0,128,480,31,2047], (.seg 0 (.seg 1 (.seg 2 (.seg 3 (.seg 4 (.seg 5 (.seg 6 (.seg 7 (.seg 8 (.seg 9 (.seg 10 (.seg 11 .last))))))))))))), (39, [0,1,0,4,0,16,60,0,128,508,1023,2047,4095,4095,16383,32767], (.seg 0 (.seg 1 (.seg 2 (.seg 3 (.seg 4 (.seg 5 (.seg 6 (.seg 7 (.seg 8 (.seg 9 (.seg 10 (.eff 11 [1, 3, 5, 8] (.seg 12 (.seg 13 (.eff 14 [] (.seg 15 .last)))))))))))))))))] Tryd.func11 rfl (by kernel_rfl) rfl rfl rfl rfl (by kernel_rfl) ?_
  simp
  refine takenR_ok _ _ ?_
  simp
  refine takenR_ok _ _ ?_
  simp
  refine floatOf_ok _ _ ?_
  simp
  refine floatOf_ok _ _ ?_
  simp (maxSteps := 1000000) [w0, w1, w2, w3, ]
  repeat' (first | (refine alt (fun _ => ?_) (fun _ => ?_)) | (intro _) | (refine boolVal_ok _ ?_; simp) | (refine intVal_ok _ ?_; simp) | (refine floatVal_ok _ ?_; simp) | (refine And.intro (fun _ _ => ?_) (fun _ _ _ => ?_)))
  all_goals exact kVT h (by simp_all [binaryS, binaryT, floatsS, same])
set_option maxRecDepth 100000 in
set_option maxHeartbeats 2000000 in
theorem twoOpN (op : Int) (ak an bk bn : Int) (h3 : op ≠ 3) (h4 : op ≠ 4) (h5 : op ≠ 5) (h6 : op ≠ 6) (h7 : op ≠ 7) (h8 : op ≠ 8) (h9 : op ≠ 9) (h10 : op ≠ 10) {K : D → List Blk → Prop} (h : K (dVT (binaryS op ak an bk bn)) []) : DPure Tryd.prog 11 [dI op, dV ak an, dV bk bn] K := by
  refine fn_ok [0,1,2,4,5,6,7,8,9,10,11,12,13,45,47,49,58,62,74,90,104,106,131,133,134,144,154,164] [(1, [0,1,0,7,15,31], (.seg 0 (.seg 2 (.eff 1 [2] (.eff 3 [0, 2] (.eff 4 [] (.eff 5 [] .last))))))), (2, [0,1,0,7,15,31], (.seg 0 (.seg 2 (.eff 1 [2] (.eff 3 [] (.seg 4 (.seg 5 .last))))))), (15, [0,1,0,4,15,0,32,0,128,480,31,2047], (.seg 0 (.seg 1 (.seg 2 (.seg 3 (.seg 4 (.seg 5 (.seg 6 (.seg 7 (.seg 8 (.seg 9 (.seg 10 (.seg 11 .last))))))))))))), (39, [0,1,0,4,0,16,60,0,128,508,1023,2047,4095,4095,16383,32767], (.seg 0 (.seg 1 (.seg 2 (.seg 3 (.seg 4 (.seg 5 (.seg 6 (.seg 7 (.seg 8 (.seg 9 (.seg 10 (.eff 11 [1, 3, 5, 8] (.seg 12 (.seg 13 (.eff 14 [] (.seg 15 .last)))))))))))))))))] Tryd.func11 rfl (by kernel_rfl) rfl rfl rfl rfl (by kernel_rfl) ?_
  simp
  refine takenR_ok _ _ ?_
  simp
  refine takenR_ok _ _ ?_
  simp
  refine floatOf_ok _ _ ?_
  simp
  refine floatOf_ok _ _ ?_
  simp (maxSteps := 1000000) [w0, w1, w2, w3, h3, h4, h5, h6, h7, h8, h9, h10]
  repeat' (first | (refine alt (fun _ => ?_) (fun _ => ?_)) | (intro _) | (refine boolVal_ok _ ?_; simp) | (refine intVal_ok _ ?_; simp) | (refine floatVal_ok _ ?_; simp) | (refine And.intro (fun _ _ => ?_) (fun _ _ _ => ?_)))
  all_goals exact kVT h (by simp [binaryS, binaryT, floatsS, wholesS, orderedI, orderedF, *])
theorem twoOp_ok (op ak an bk bn : Int) {K : D → List Blk → Prop} (h : K (dVT (binaryS op ak an bk bn)) []) : DPure Tryd.prog 11 [dI op, dV ak an, dV bk bn] K := by
  rcases (by omega : op = 3 ∨ op = 4 ∨ op = 5 ∨ op = 6 ∨ op = 7 ∨ op = 8 ∨ op = 9 ∨ op = 10 ∨ (op ≠ 3 ∧ op ≠ 4 ∧ op ≠ 5 ∧ op ≠ 6 ∧ op ≠ 7 ∧ op ≠ 8 ∧ op ≠ 9 ∧ op ≠ 10)) with rfl | rfl | rfl | rfl | rfl | rfl | rfl | rfl | ⟨a, b, c, d, e, f, g, i⟩
  · exact twoOp3 ak an bk bn h
  · exact twoOp4 ak an bk bn h
  · exact twoOp5 ak an bk bn h
  · exact twoOp6 ak an bk bn h
  · exact twoOp7 ak an bk bn h
  · exact twoOp8 ak an bk bn h
  · exact twoOp9 ak an bk bn h
  · exact twoOp10 ak an bk bn h
  · exact twoOpN op ak an bk bn a b c d e f g i h
end Go.Proofs.YtalippdhfkpbmaaDoor
