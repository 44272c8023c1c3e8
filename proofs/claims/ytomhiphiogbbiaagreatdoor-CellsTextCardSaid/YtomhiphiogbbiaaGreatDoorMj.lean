/- Several texts in one. -/
import Derived.Test.YtomhiphiogbbiaaGreatDoorMg
import Derived.Test.YtomhiphiogbbiaaGreatDoorMh
set_option linter.unusedSimpArgs false
set_option linter.unusedVariables false
set_option maxRecDepth 100000
set_option maxHeartbeats 16000000
namespace Go.Proofs.YtomhiphiogbbiaaGreatDoor
open Go.RowKit Go
theorem sameVals_ok (S T : Bool) (L M : List GVal) {K : D → List Blk → Prop} (h : K (dB (decide (L = M))) []) : DPure Tryz.prog 137 [dL S (L.map eVal), dL T (M.map eVal)] K := by
  refine fn_ok [0,1,4,5,10,12,13,14,24] [(6, [0,0,3,7,0,0,48,112,255], (.seg 0 (.seg 1 (.seg 2 (.seg 3 (.seg 4 (.seg 5 (.seg 6 (.seg 7 (.seg 8 .last))))))))))] Tryz.func137 rfl (by kernel_rfl) rfl rfl rfl rfl (by kernel_rfl) ?_
  simp
  intro hl hm
  refine alt (fun he => ?_) (fun hne => kB h (by simp; rintro rfl; exact hne rfl))
  have he : L.length = M.length := by omega
  intro _
  refine loop_ok (ks := [0,1,4,5,10,12,13,14,24]) (pl := [(6, [0,0,3,7,0,0,48,112,255], (.seg 0 (.seg 1 (.seg 2 (.seg 3 (.seg 4 (.seg 5 (.seg 6 (.seg 7 (.seg 8 .last))))))))))]) (n0 := 26) (fun x : {k : Nat // k ≤ L.length ∧ L.take k = M.take k} => [(13, dI x.1)]) (fun x => L.length - x.1) ⟨0, by simp⟩ rfl (by kernel_rfl) (Wk.sub (by simp)) ?_
  rintro ⟨k, hk, ht⟩
  by_cases h1 : k < L.length
  · have h2 : k < M.length := by omega
    simp [h1, h2]
    refine alt (fun hne => kB h (by simp; rintro rfl; simp at hne)) (fun hc => ?_); simp at hc; obtain ⟨e1, e2⟩ := hc
    exact ⟨k + 1, by omega, ⟨by omega, take_eq_succ ht h1 h2 (by cases hx : L[k]; cases hy : M[k]; simp_all)⟩, Wk.sub (by simp [wrap_add (show k < 9223372036854775807 by omega)])⟩
  · simp [h1]
    obtain rfl : k = L.length := by omega
    rw [List.take_length, he, List.take_length] at ht
    exact kB h (by simpa using ht)
theorem sameFrames_ok (S T : Bool) (L M : List GFrame) {K : D → List Blk → Prop} (h : K (dB (decide (L = M))) []) : DPure Tryz.prog 74 [dL S (L.map eFrame), dL T (M.map eFrame)] K := by
  refine fn_ok [0,1,4,5,6,7,8,13,14,15,16,17,74,77,78,79,91] [(12, [0,1,0,7,15,0,32,0,224,480,1023], (.seg 0 (.seg 1 (.seg 2 (.seg 3 (.seg 4 (.seg 5 (.seg 6 (.seg 7 (.seg 8 (.seg 9 (.seg 10 .last))))))))))))] Tryz.func74 rfl (by kernel_rfl) rfl rfl rfl rfl (by kernel_rfl) ?_
  simp
  intro hl hm
  refine alt (fun he => ?_) (fun hne => kB h (by simp; rintro rfl; exact hne rfl))
  have he : L.length = M.length := by omega
  intro _
  refine loopH_ok (ks := [0,1,4,5,6,7,8,13,14,15,16,17,74,77,78,79,91]) (pl := [(12, [0,1,0,7,15,0,32,0,224,480,1023], (.seg 0 (.seg 1 (.seg 2 (.seg 3 (.seg 4 (.seg 5 (.seg 6 (.seg 7 (.seg 8 (.seg 9 (.seg 10 .last))))))))))))]) (n0 := 94) (α := {x : Nat × Nat // x.1 ≤ L.length ∧ L.take x.1 = M.take x.1}) (fun x => [(16, dI x.1.1)]) (fun H _ => H) (fun x => x.1.2) (fun x => L.length - x.1.1) ⟨(0, 0), by simp⟩ rfl (by kernel_rfl) (Wk.sub (by simp)) ?_
  rintro ⟨⟨k, m⟩, hk, ht⟩
  simp only at hk ht
  by_cases h1 : k < L.length
  · have h2 : k < M.length := by omega
    have g1 : L[k]? = some L[k] := List.getElem?_eq_getElem h1
    have g2 : M[k]? = some M[k] := List.getElem?_eq_getElem h2
    have bad : L[k] ≠ M[k] → K (dB false) [] := fun e => kB h (by simp; rintro rfl; exact e rfl)
    have next : L[k] = M[k] → L.take (k + 1) = M.take (k + 1) := fun e => take_eq_succ ht h1 h2 e
    simp [h1, h2, g1, g2]
    refine alt (fun e1 => ?_) (fun e1 => bad fun e => e1 (by rw [e]))
    refine alt (fun e2 => ?_) (fun e2 => bad fun e => e2 (by rw [e]))
    refine alt (fun e3 => ?_) (fun e3 => bad fun e => e3 (by rw [e]))
    refine alt (fun e4 => ?_) (fun e4 => bad fun e => e4 (by rw [e]))
    refine alt (fun e5 => ?_) (fun e5 => bad fun e => e5 (by rw [e]; exact ⟨rfl, rfl⟩))
    intro _ _
    refine alt (fun e6 => ?_) (fun e6 => bad fun e => e6 (by rw [e]))
    refine sameVals_ok true true L[k].regs M[k].regs ?_
    by_cases e7 : L[k].regs = M[k].regs
    case neg =>
      simp [e7]
      exact bad fun e => e7 (by rw [e])
    simp [e7]
    intro _
    have e6' : L[k].tries.length = M[k].tries.length := by omega
    refine loopH_ok (ks := [0,1,4,5,6,7,8,13,14,15,16,17,74,77,78,79,91]) (pl := [(12, [0,1,0,7,15,0,32,0,224,480,1023], (.seg 0 (.seg 1 (.seg 2 (.seg 3 (.seg 4 (.seg 5 (.seg 6 (.seg 7 (.seg 8 (.seg 9 (.seg 10 .last))))))))))))]) (n0 := 94) (α := {x : Nat // x ≤ L[k].tries.length ∧ L[k].tries.take x = M[k].tries.take x}) (fun x => [(78, dI x.1)]) (fun H _ => H) (fun _ => m + 2) (fun x => L[k].tries.length - x.1) ⟨0, by simp⟩ rfl (by kernel_rfl) (Wk.sub (by simp)) ?_
    rintro ⟨j, hj, hjt⟩
    by_cases h3 : j < L[k].tries.length
    · have h4 : j < M[k].tries.length := by omega
      have bad2 : L[k].tries[j] ≠ M[k].tries[j] → K (dB false) [] := fun e => bad fun e2 => e (by simp only [e2])
      simp [h3, h4]
      refine alt (fun hne => bad2 (by rintro e; simp [e] at hne)) (fun hc => ?_)
      simp at hc
      refine ⟨j + 1, by omega, ⟨by omega, take_eq_succ hjt h3 h4 ?_⟩, Wk.sub (by simp [wrap_add (show j < 9223372036854775807 by omega)])⟩
      obtain ⟨c1, c2⟩ := hc
      cases hx : L[k].tries[j]; cases hy : M[k].tries[j]; simp_all
    · obtain rfl : j = L[k].tries.length := by omega
      rw [List.take_length, e6', List.take_length] at hjt
      simp
      refine ⟨k + 1, by omega, ⟨by omega, next ?_⟩, m + 2, (Wk.sub (by simp [wrap_add (show k < 9223372036854775807 by omega)])).trans (Wk.heap fun i y hy => by simp [Hp.none] at hy)⟩
      cases hx : L[k]; rename_i f1 f2 f3 f4 f5 f6 f7; cases f5
      cases hy : M[k]; rename_i f1 f2 f3 f4 f5 f6 f7; cases f5
      simp_all
  · obtain rfl : k = L.length := by omega
    simp
    rw [List.take_length, he, List.take_length] at ht
    exact kB h (by simpa using ht)
structure KR2 where
  k : Nat
  nx : Nat
def heapSame (x y : GState) : Bool := decide (x.cells = y.cells) && decide (x.shapes = y.shapes) && decide (x.texts = y.texts) && decide (x.ends = y.ends) && decide (x.said = y.said)
theorem sameHeap_ok (x y : GState) {K : D → List Blk → Prop} (h : K (dB (heapSame x y)) []) : DPure Tryz.prog 73 [aD (eState x), aD (eState y)] K := by
  have bad : ¬ (x.cells = y.cells ∧ x.shapes = y.shapes ∧ x.texts = y.texts ∧ x.ends = y.ends ∧ x.said = y.said) → K (dB false) [] := fun e => kB h (by unfold heapSame; rw [Bool.eq_false_iff]; intro e2; simp at e2; exact e ⟨e2.1.1.1.1, e2.1.1.1.2, e2.1.1.2, e2.1.2, e2.2⟩)
  have good : x.cells = y.cells → x.shapes = y.shapes → x.texts = y.texts → x.ends = y.ends → x.said = y.said → K (dB true) [] := fun e1 e2 e3 e4 e5 => kB h (by simp [heapSame, e1, e2, e3, e4, e5])
  clear h
  obtain ⟨a1, a2, a3, a4, a5, a6, a7, a8⟩ := x
  obtain ⟨b1, b2, b3, b4, b5, b6, b7, b8⟩ := y
  simp only at bad good
  refine fn_ok [0,1,2,3,4,5,6,7,8,9,10,52,54,55,56,57,93,97,98,99,111,115,116,117,129,133,134,135,147] [(13, [0,1,0,7,15,0,32,0,224,480,1023], (.seg 0 (.seg 1 (.seg 2 (.seg 3 (.seg 4 (.seg 5 (.seg 6 (.seg 7 (.seg 8 (.seg 9 (.seg 10 .last)))))))))))), (19, [0,1,0,7,15,0,32,0,224,480,1023], (.seg 0 (.seg 1 (.seg 2 (.seg 3 (.seg 4 (.seg 5 (.seg 6 (.seg 7 (.seg 8 (.seg 9 (.seg 10 .last)))))))))))), (25, [0,1,0,7,15,0,32,0,224,480,1023], (.seg 0 (.seg 1 (.seg 2 (.seg 3 (.seg 4 (.seg 5 (.seg 6 (.seg 7 (.seg 8 (.seg 9 (.seg 10 .last))))))))))))] Tryz.func73 rfl (by kernel_rfl) rfl rfl rfl rfl (by kernel_rfl) ?_
  simp
  intro _ _
  refine alt (fun l1 => ?_) (fun l1 => bad fun e => l1 (by rw [e.1]))
  intro _ _
  refine alt (fun l2 => ?_) (fun l2 => bad fun e => l2 (by rw [e.2.1]))
  intro _ _
  refine alt (fun l3 => ?_) (fun l3 => bad fun e => l3 (by rw [e.2.2.1]))
  intro _ _
  refine alt (fun l4 => ?_) (fun l4 => bad fun e => l4 (by rw [e.2.2.2.1]))
  refine sameVals_ok true true a6 b6 ?_
  by_cases e6 : a6 = b6
  case neg =>
    simp [e6]
    exact bad fun e => e6 e.2.2.2.2
  have l1' : a1.length = b1.length := by omega
  have l2' : a2.length = b2.length := by omega
  have l3' : a3.length = b3.length := by omega
  have l4' : a5.length = b5.length := by omega
  simp [e6]
  intro _
  refine loopH_ok (ks := [0,1,2,3,4,5,6,7,8,9,10,52,54,55,56,57,93,97,98,99,111,115,116,117,129,133,134,135,147]) (pl := [(13, [0,1,0,7,15,0,32,0,224,480,1023], (.seg 0 (.seg 1 (.seg 2 (.seg 3 (.seg 4 (.seg 5 (.seg 6 (.seg 7 (.seg 8 (.seg 9 (.seg 10 .last)))))))))))), (19, [0,1,0,7,15,0,32,0,224,480,1023], (.seg 0 (.seg 1 (.seg 2 (.seg 3 (.seg 4 (.seg 5 (.seg 6 (.seg 7 (.seg 8 (.seg 9 (.seg 10 .last)))))))))))), (25, [0,1,0,7,15,0,32,0,224,480,1023], (.seg 0 (.seg 1 (.seg 2 (.seg 3 (.seg 4 (.seg 5 (.seg 6 (.seg 7 (.seg 8 (.seg 9 (.seg 10 .last))))))))))))]) (n0 := 149) (α := {x : KR2 // x.k ≤ a1.length ∧ a1.take x.k = b1.take x.k ∧ 2 ≤ x.nx}) (fun x => [(56, dI x.1.k)]) (fun H _ => H) (fun x => x.1.nx) (fun x => a1.length - x.1.k) ⟨⟨0, 2⟩, by simp⟩ rfl (by kernel_rfl) (Wk.sub (by simp)) ?_
  rintro ⟨⟨k, nx⟩, hk, ht, hn⟩
  simp only at hk ht hn
  have f0 : ¬ 0 = nx := by omega
  have f1 : ¬ 1 = nx := by omega
  have f2 : ¬ 0 = nx + 1 := by omega
  have f3 : ¬ 1 = nx + 1 := by omega
  by_cases h1 : k < a1.length
  · have h2 : k < b1.length := by omega
    have bad2 : a1[k] ≠ b1[k] → K (dB false) [] := fun e => bad fun e2 => e (by simp only [e2])
    simp [h1, h2, f0, f1, f2, f3]
    refine alt (fun c1 => ?_) (fun c1 => bad2 fun e => c1 (by rw [e]))
    refine alt (fun c2 => ?_) (fun c2 => bad2 fun e => c2 (by rw [e]))
    refine sameVals_ok true true a1[k].vals b1[k].vals ?_
    by_cases c3 : a1[k].vals = b1[k].vals
    case neg =>
      simp [c3]
      exact bad2 fun e => c3 (by rw [e])
    simp [c3]
    refine sameFrames_ok true true a1[k].frames b1[k].frames ?_
    by_cases c4 : a1[k].frames = b1[k].frames
    case neg =>
      simp [c4]
      exact bad2 fun e => c4 (by rw [e])
    simp [c4]
    refine ⟨⟨k + 1, nx + 2⟩, by simp; omega, ⟨by simp; omega, take_eq_succ ht h1 h2 ?_, by simp <;> omega⟩, (Wk.sub (by simp [wrap_add (show k < 9223372036854775807 by omega)])).trans (Wk.heap fun i y hy => ?_)⟩
    · cases hx : a1[k]; cases hy : b1[k]; simp_all
    · unfold Hp.set Hp.none at hy ⊢
      grind
  obtain rfl : k = a1.length := by omega
  rw [List.take_length, l1', List.take_length] at ht
  subst ht
  simp [f0, f1]
  intro _
  refine loopH_ok (ks := [0,1,2,3,4,5,6,7,8,9,10,52,54,55,56,57,93,97,98,99,111,115,116,117,129,133,134,135,147]) (pl := [(13, [0,1,0,7,15,0,32,0,224,480,1023], (.seg 0 (.seg 1 (.seg 2 (.seg 3 (.seg 4 (.seg 5 (.seg 6 (.seg 7 (.seg 8 (.seg 9 (.seg 10 .last)))))))))))), (19, [0,1,0,7,15,0,32,0,224,480,1023], (.seg 0 (.seg 1 (.seg 2 (.seg 3 (.seg 4 (.seg 5 (.seg 6 (.seg 7 (.seg 8 (.seg 9 (.seg 10 .last)))))))))))), (25, [0,1,0,7,15,0,32,0,224,480,1023], (.seg 0 (.seg 1 (.seg 2 (.seg 3 (.seg 4 (.seg 5 (.seg 6 (.seg 7 (.seg 8 (.seg 9 (.seg 10 .last))))))))))))]) (n0 := 149) (α := {k : Nat // k ≤ a2.length ∧ a2.take k = b2.take k}) (fun x => [(98, dI x.1)]) (fun H _ => H) (fun _ => nx) (fun x => a2.length - x.1) ⟨0, by simp⟩ rfl (by kernel_rfl) (Wk.sub (by simp)) ?_
  rintro ⟨k, hk, ht⟩
  by_cases h1 : k < a2.length
  · have h2 : k < b2.length := by omega
    have bad2 : a2[k] ≠ b2[k] → K (dB false) [] := fun e => bad fun e2 => e (by simp only [e2])
    simp [h1, h2, f0, f1]
    refine alt (fun hne => bad2 (by intro e; simp [e] at hne)) (fun hc => ?_); simp at hc
    refine ⟨k + 1, by omega, ⟨by omega, take_eq_succ ht h1 h2 ?_⟩, Wk.sub (by simp [wrap_add (show k < 9223372036854775807 by omega)])⟩
    obtain ⟨c1, c2⟩ := hc; exact Prod.ext c1 c2
  obtain rfl : k = a2.length := by omega
  rw [List.take_length, l2', List.take_length] at ht
  subst ht
  simp [f0, f1]
  intro _
  refine loopH_ok (ks := [0,1,2,3,4,5,6,7,8,9,10,52,54,55,56,57,93,97,98,99,111,115,116,117,129,133,134,135,147]) (pl := [(13, [0,1,0,7,15,0,32,0,224,480,1023], (.seg 0 (.seg 1 (.seg 2 (.seg 3 (.seg 4 (.seg 5 (.seg 6 (.seg 7 (.seg 8 (.seg 9 (.seg 10 .last)))))))))))), (19, [0,1,0,7,15,0,32,0,224,480,1023], (.seg 0 (.seg 1 (.seg 2 (.seg 3 (.seg 4 (.seg 5 (.seg 6 (.seg 7 (.seg 8 (.seg 9 (.seg 10 .last)))))))))))), (25, [0,1,0,7,15,0,32,0,224,480,1023], (.seg 0 (.seg 1 (.seg 2 (.seg 3 (.seg 4 (.seg 5 (.seg 6 (.seg 7 (.seg 8 (.seg 9 (.seg 10 .last))))))))))))]) (n0 := 149) (α := {k : Nat // k ≤ a3.length ∧ a3.take k = b3.take k}) (fun x => [(116, dI x.1)]) (fun H _ => H) (fun _ => nx) (fun x => a3.length - x.1) ⟨0, by simp⟩ rfl (by kernel_rfl) (Wk.sub (by simp)) ?_
  rintro ⟨k, hk, ht⟩
  by_cases h1 : k < a3.length
  · have h2 : k < b3.length := by omega
    have bad2 : a3[k] ≠ b3[k] → K (dB false) [] := fun e => bad fun e2 => e (by simp only [e2])
    simp [h1, h2, f0, f1]
    refine alt (fun hc => ?_) (fun hne => bad2 hne)
    refine ⟨k + 1, by omega, ⟨by omega, take_eq_succ ht h1 h2 ?_⟩, Wk.sub (by simp [wrap_add (show k < 9223372036854775807 by omega)])⟩
    exact hc
  obtain rfl : k = a3.length := by omega
  rw [List.take_length, l3', List.take_length] at ht
  subst ht
  simp [f0, f1]
  intro _
  refine loopH_ok (ks := [0,1,2,3,4,5,6,7,8,9,10,52,54,55,56,57,93,97,98,99,111,115,116,117,129,133,134,135,147]) (pl := [(13, [0,1,0,7,15,0,32,0,224,480,1023], (.seg 0 (.seg 1 (.seg 2 (.seg 3 (.seg 4 (.seg 5 (.seg 6 (.seg 7 (.seg 8 (.seg 9 (.seg 10 .last)))))))))))), (19, [0,1,0,7,15,0,32,0,224,480,1023], (.seg 0 (.seg 1 (.seg 2 (.seg 3 (.seg 4 (.seg 5 (.seg 6 (.seg 7 (.seg 8 (.seg 9 (.seg 10 .last)))))))))))), (25, [0,1,0,7,15,0,32,0,224,480,1023], (.seg 0 (.seg 1 (.seg 2 (.seg 3 (.seg 4 (.seg 5 (.seg 6 (.seg 7 (.seg 8 (.seg 9 (.seg 10 .last))))))))))))]) (n0 := 149) (α := {k : Nat // k ≤ a5.length ∧ a5.take k = b5.take k}) (fun x => [(134, dI x.1)]) (fun H _ => H) (fun _ => nx) (fun x => a5.length - x.1) ⟨0, by simp⟩ rfl (by kernel_rfl) (Wk.sub (by simp)) ?_
  rintro ⟨k, hk, ht⟩
  by_cases h1 : k < a5.length
  · have h2 : k < b5.length := by omega
    have bad2 : a5[k] ≠ b5[k] → K (dB false) [] := fun e => bad fun e2 => e (by simp only [e2])
    simp [h1, h2, f0, f1]
    refine alt (fun hne => bad2 (by intro e; simp [e] at hne)) (fun hc => ?_); simp at hc
    refine ⟨k + 1, by omega, ⟨by omega, take_eq_succ ht h1 h2 ?_⟩, Wk.sub (by simp [wrap_add (show k < 9223372036854775807 by omega)])⟩
    obtain ⟨c1, c2, c3⟩ := hc; cases hx : a5[k]; rename_i xx xf; cases xf; cases hy : b5[k]; rename_i yy yf; cases yf; simp_all
  obtain rfl : k = a5.length := by omega
  rw [List.take_length, l4', List.take_length] at ht
  subst ht
  simp
  exact good rfl rfl rfl rfl e6
theorem sameStates_ok (x y : GState) {K : D → List Blk → Prop} (h : K (dB (decide (x = y))) []) : DPure Tryz.prog 24 [aD (eState x), aD (eState y)] K := by
  have bad : ¬ (x = y) → K (dB false) [] := fun e => kB h (decide_eq_false e)
  have good : x = y → K (dB true) [] := fun e => kB h (decide_eq_true e)
  clear h
  refine fn_ok [0,1,2,3,4,5,6,7,34,36,37,38,39,74] [] Tryz.func24 rfl (by kernel_rfl) rfl rfl rfl rfl (by kernel_rfl) ?_
  simp
  refine sameHeap_ok x y ?_
  cases hs : heapSame x y with
  | false =>
    simp
    exact bad fun e => by subst e; simp [heapSame] at hs
  | true =>
  simp
  intro _ _
  refine alt (fun l1 => ?_) (fun l1 => bad fun e => l1 (by rw [e]))
  refine alt (fun l2 => ?_) (fun l2 => bad fun e => l2 (by rw [e]))
  refine alt (fun l3 => ?_) (fun l3 => bad fun e => l3 (by rw [e]))
  have l1' : x.threads.length = y.threads.length := by omega
  intro _
  refine loopH_ok (ks := [0,1,2,3,4,5,6,7,34,36,37,38,39,74]) (pl := []) (n0 := 76) (α := {z : KR2 // z.k ≤ x.threads.length ∧ x.threads.take z.k = y.threads.take z.k ∧ 2 ≤ z.nx}) (fun x => [(38, dI x.1.k)]) (fun H _ => H) (fun x => x.1.nx) (fun z => x.threads.length - z.1.k) ⟨⟨0, 2⟩, by simp⟩ rfl (by kernel_rfl) (Wk.sub (by simp)) ?_
  rintro ⟨⟨k, nx⟩, hk, ht, hn⟩
  simp only at hk ht hn
  have f0 : ¬ 0 = nx := by omega
  have f1 : ¬ 1 = nx := by omega
  have f2 : ¬ 0 = nx + 1 := by omega
  have f3 : ¬ 1 = nx + 1 := by omega
  by_cases h1 : k < x.threads.length
  · have h2 : k < y.threads.length := by omega
    have bad2 : x.threads[k] ≠ y.threads[k] → K (dB false) [] := fun e => bad fun e2 => e (by simp only [e2])
    simp [h1, h2, f0, f1, f2, f3]
    refine alt (fun c1 => ?_) (fun c1 => bad2 fun e => c1 (by rw [e]))
    refine alt (fun c2 => ?_) (fun c2 => bad2 fun e => c2 (by rw [e]))
    refine alt (fun c3 => ?_) (fun c3 => bad2 fun e => c3 (by rw [e]; exact ⟨rfl, rfl⟩))
    refine sameFrames_ok true true x.threads[k].frames y.threads[k].frames ?_
    by_cases c4 : x.threads[k].frames = y.threads[k].frames
    case neg =>
      simp [c4]
      exact bad2 fun e => c4 (by rw [e])
    simp [c4]
    refine ⟨⟨k + 1, nx + 2⟩, by simp; omega, ⟨by simp; omega, take_eq_succ ht h1 h2 ?_, by simp <;> omega⟩, (Wk.sub (by simp [wrap_add (show k < 9223372036854775807 by omega)])).trans (Wk.heap fun i y hy => ?_)⟩
    · cases hx : x.threads[k]; rename_i g1 g2 g3 g4; cases g4
      cases hy : y.threads[k]; rename_i g1 g2 g3 g4; cases g4
      simp_all
    · unfold Hp.set Hp.none at hy ⊢
      grind
  obtain rfl : k = x.threads.length := by omega
  rw [List.take_length, l1', List.take_length] at ht
  simp
  refine good ?_
  simp [heapSame] at hs
  obtain ⟨a1, a2, a3, a4, a5, a6, a7, a8⟩ := x
  obtain ⟨b1, b2, b3, b4, b5, b6, b7, b8⟩ := y
  simp_all
end Go.Proofs.YtomhiphiogbbiaaGreatDoor
