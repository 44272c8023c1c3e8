/- Several texts in one. -/
import Derived.Test.YtbphdcffpobcbaaGreatDoorMg
import Derived.Test.YtbphdcffpobcbaaGreatDoorMj
set_option linter.unusedSimpArgs false
set_option linter.unusedVariables false
set_option maxRecDepth 100000
set_option maxHeartbeats 16000000
namespace Go.Proofs.YtbphdcffpobcbaaGreatDoor
open Go.RowKit Go
theorem canGo_ok (s : GState) (n : Nat) (hn : n < s.threads.length) (ht : onB s (thrAt s n) = true) (hst : ∀ t ∈ s.threads, btw t.state 0 4 = true) {K : D → List Blk → Prop} (h : K (dB (canB s (thrAt s n))) []) : DPure Tryz.prog 52 [aD (eState s), dI n] K := by
  refine fn_ok [0,1,2,4,5] [] Tryz.func52 rfl (by kernel_rfl) rfl rfl rfl rfl (by kernel_rfl) ?_
  have hg := thr_get (s := s) (n := (n : Int)) (by omega) (by omega)
  rw [Int.toNat_natCast] at hg
  have hg2 := (List.getElem?_eq_some_iff.1 hg).2
  generalize thrAt s n = t at *
  by_cases c0 : t.state = 0
  · simp [hn, hg2, c0]
    simp [canB, c0] at h
    exact h
  by_cases c1 : t.state = 1
  · simp [onB, c1, namesB] at ht
    have hc := cell_get (s := s) ht.1.1 (by omega)
    have hce := cellAt_eq (s := s) ht.1.1 (by omega)
    simp [hn, hg2, c0, c1, ht]
    simp [canB, c1, hce] at h
    refine alt (fun d => ?_) (fun d => ?_)
    · simpa [d] using h
    · simpa [d] using h
  by_cases c2 : t.state = 2
  · simp [onB, c2] at ht
    have hc := thr_get (s := s) ht.1 (by omega)
    have hc2 := (List.getElem?_eq_some_iff.1 hc).2
    have hb := hst _ (List.mem_of_getElem? hc)
    simp [hn, hg2, c0, c1, c2, ht, hc]
    simp [canB, c2] at h
    rw [hc2]
    have e : decide (2 < (thrAt s t.on).state) = (decide ((thrAt s t.on).state = 3) || decide ((thrAt s t.on).state = 4)) := by
      simp [btw] at hb
      rw [Bool.eq_iff_iff]; simp; omega
    rw [e]
    exact h
  simp [hn, hg2, c0, c1, c2]
  simp [canB, c0, c1, c2] at h
  exact h
structure KS3 where
  k : Nat
  a : Nat
  nx : Nat
end Go.Proofs.YtbphdcffpobcbaaGreatDoor
