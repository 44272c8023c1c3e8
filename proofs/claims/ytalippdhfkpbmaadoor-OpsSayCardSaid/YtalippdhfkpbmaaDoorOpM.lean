/- What the document answers of values: contracts. -/
import Derived.Test.YtalippdhfkpbmaaDoorOpN
namespace Go.Proofs.YtalippdhfkpbmaaDoor
open Go.RowKit Go
set_option linter.unusedSimpArgs false
abbrev dF (b : Nat) : D := .one (.d (.lit (.float .f64 b)))
theorem isNum_same (b : Nat) : isNum b = same b b := rfl
theorem floatOf_ok (k n : Int) {K : D → List Blk → Prop} (h : K (dF (flt n)) []) : DPure Tryd.prog 45 [dV k n] K := by
  refine fn_ok [0,1,2] [] Tryd.func45 rfl (by kernel_rfl) rfl rfl rfl rfl (by kernel_rfl) ?_
  simp
  exact h
theorem isNaN_ok (b : Nat) {K : D → List Blk → Prop} (h : K (dB (!same b b)) []) : DPure Tryd.prog 47 [dF b] K := by
  refine fn_ok [0,2] [] Tryd.func47 rfl (by kernel_rfl) rfl rfl rfl rfl (by kernel_rfl) ?_
  simp
  exact kB h (by simp [same, bne])
theorem kD {K : D → List Blk → Prop} {a b : D} (h : K a []) (e : a = b) : K b [] := e ▸ h
theorem rightVal_ok (k n : Int) {K : D → List Blk → Prop} (h : K (dB (rightB k n)) []) : DPure Tryd.prog 13 [dV k n] K := by
  refine fn_ok [0,1,2,4,5,10,20,25,36,42] [] Tryd.func13 rfl (by kernel_rfl) rfl rfl rfl rfl (by kernel_rfl) ?_
  simp
  repeat' (first | (refine alt (fun _ => ?_) (fun _ => ?_)) | (intro _) | (refine between_ok _ _ _ ?_; simp) | (refine floatOf_ok _ _ ?_; simp) | (refine isNaN_ok _ ?_; simp))
  all_goals exact kB h (by simp_all [rightB, btw, theNaN] <;> first | done | omega | (rw [Bool.eq_iff_iff]; simp; done) | (rw [Bool.eq_iff_iff]; simp; omega))
theorem boolVal_ok (b : Bool) {K : D → List Blk → Prop} (h : K (dV 1 (bit b)) []) : DPure Tryd.prog 42 [dB b] K := by
  refine fn_ok [0,2,3] [] Tryd.func42 rfl (by kernel_rfl) rfl rfl rfl rfl (by kernel_rfl) ?_
  simp
  cases b <;> exact h
theorem takenR_ok (k n : Int) {K : D → List Blk → Prop} (h : K (dV (takK k n) (takN k n)) []) : DPure Tryd.prog 41 [dV k n] K := by
  refine fn_ok [0,1,2,4] [] Tryd.func41 rfl (by kernel_rfl) rfl rfl rfl rfl (by kernel_rfl) ?_
  simp
  refine rightVal_ok _ _ ?_
  simp
  repeat' (first | (refine alt (fun _ => ?_) (fun _ => ?_)) | (intro _) | fail)
  all_goals exact kD h (by simp_all [takK, takN])
theorem right_cases {k n : Int} (h : rightB k n = true) : (k = 0 ∧ n = 0) ∨ (k = 1 ∧ (n = 0 ∨ n = 1)) ∨ 1 < k := by
  by_cases h0 : k = 0
  · subst h0; simp [rightB] at h; exact .inl ⟨rfl, h⟩
  by_cases h1 : k = 1
  · subst h1; simp [rightB] at h; exact .inr (.inl ⟨rfl, by omega⟩)
  by_cases h2 : 1 < k
  · exact .inr (.inr h2)
  · simp [rightB, h0, h1, show ¬ k = 2 by omega, show ¬ k = 3 by omega, show ¬ k = 4 by omega, show ¬ k = 5 by omega, show ¬ k = 6 by omega] at h
theorem tak_right (k n : Int) : rightB (takK k n) (takN k n) = true := by
  unfold takK takN
  by_cases h : rightB k n = true
  · simp [h]
  · simp [h]; simp [rightB]
theorem truth_eq (k n : Int) : truthB k n = (decide (1 < takK k n) || (decide (takK k n = 1) && decide (takN k n = 1))) := by
  have h := right_cases (tak_right k n)
  unfold truthB
  rw [Bool.eq_iff_iff]; simp; omega
theorem isTrue_ok (k n : Int) {K : D → List Blk → Prop} (h : K (dB (truthB k n)) []) : DPure Tryd.prog 15 [dV k n] K := by
  refine fn_ok [0,1,2] [] Tryd.func15 rfl (by kernel_rfl) rfl rfl rfl rfl (by kernel_rfl) ?_
  simp
  refine takenR_ok _ _ ?_
  simp
  repeat' (first | (refine alt (fun _ => ?_) (fun _ => ?_)) | (intro _) | fail)
  all_goals exact kB h (by rw [truth_eq]; simp_all)
theorem intVal_ok (n : Int) {K : D → List Blk → Prop} (h : K (dVT (wholeS n)) []) : DPure Tryd.prog 43 [dI n] K := by
  refine fn_ok [0,2,3,5] [] Tryd.func43 rfl (by kernel_rfl) rfl rfl rfl rfl (by kernel_rfl) ?_
  simp
  refine between_ok _ _ _ ?_
  simp
  repeat' (first | (refine alt (fun _ => ?_) (fun _ => ?_)) | (intro _) | fail)
  all_goals exact kD h (by rename_i hc; simp [btw] at hc; first | (rw [wholeS, if_pos hc]; done) | (rw [wholeS, if_neg (by omega)]; done) | (rw [wholeS, if_pos hc]; rfl) | (rw [wholeS, if_neg (by omega)]; rfl))
theorem floatVal_ok (b : Nat) {K : D → List Blk → Prop} (h : K (dV 3 (ofN b)) []) : DPure Tryd.prog 44 [dF b] K := by
  refine fn_ok [0,2,3,9] [] Tryd.func44 rfl (by kernel_rfl) rfl rfl rfl rfl (by kernel_rfl) ?_
  simp
  refine isNaN_ok _ ?_
  simp
  repeat' (first | (refine alt (fun _ => ?_) (fun _ => ?_)) | (intro _) | fail)
  all_goals exact kD h (by simp_all [ofN, theNaN, IntWalk.i64_left])
theorem tak_tak (k n : Int) : takK (takK k n) (takN k n) = takK k n ∧ takN (takK k n) (takN k n) = takN k n := by
  have := tak_right k n
  constructor
  · rw [takK.eq_def (takK k n), if_pos this]
  · rw [takN.eq_def (takK k n), if_pos this]
theorem kVT {K : D → List Blk → Prop} {x : VT} {a b c : Int} (h : K (dVT x) []) (e : x = (a, b, c)) : K (.tup [aD [eI a, eI b], dI c]) [] := by subst e; exact h
theorem oneOp_ok (op k n : Int) {K : D → List Blk → Prop} (h : K (dVT (unaryS op k n)) []) : DPure Tryd.prog 10 [dI op, dV k n] K := by
  refine fn_ok [0,1,3,4,5,9,20,33] [] Tryd.func10 rfl (by kernel_rfl) rfl rfl rfl rfl (by kernel_rfl) ?_
  simp
  refine takenR_ok _ _ ?_
  simp
  repeat' (first | (refine alt (fun _ => ?_) (fun _ => ?_)) | (intro _) | (refine isTrue_ok _ _ ?_; simp) | (refine boolVal_ok _ ?_; simp) | (refine intVal_ok _ ?_; simp) | (refine floatOf_ok _ _ ?_; simp) | (refine floatVal_ok _ ?_; simp))
  all_goals refine kVT h ?_
  all_goals first
    | (simp_all [unaryS, tak_tak, bit]; done)
    | (have hk : takK k n = 2 := by assumption
       have := tak_int hk
       have e : IntKind.i64.wrap (-takN k n) = -takN k n := wrap_id (by omega) (by omega)
       have e2 : unaryS op k n = wholeS (IntKind.i64.wrap (-takN k n)) := by rw [e]; simp_all [unaryS]
       exact e2)
end Go.Proofs.YtalippdhfkpbmaaDoor
