/- Several texts in one. -/
import Derived.Test.YtomhiphiogbbiaaGreatDoorMki
import Derived.Test.YtomhiphiogbbiaaGreatDoorMkj
import Derived.Test.YtomhiphiogbbiaaGreatDoorMkk
import Derived.Test.YtomhiphiogbbiaaGreatDoorMkl
set_option linter.unusedSimpArgs false
set_option linter.unusedVariables false
set_option maxRecDepth 100000
set_option maxHeartbeats 16000000
namespace Go.Proofs.YtomhiphiogbbiaaGreatDoor
open Go.RowKit Go
noncomputable def kindD (s : GState) (v : GVal) : Int := if askC s [v] = true then kindW s v else 8
theorem kindC_ok (s : GState) (hs : okSt s) (v : GVal) {K : D → List Blk → Prop} (h : K (dI (kindD s v)) []) : DPure Tryz.prog 18 [aD (eState s), aD (eVal v)] K := by
  refine fn_ok [0,1,2,3,4,8] [] Tryz.func18 rfl (by kernel_rfl) rfl rfl rfl rfl (by kernel_rfl) ?_
  simp
  refine askedO_ic hs [v] (by simp) (by simp) ?_
  unfold kindD at h
  by_cases c1 : askC s [v] = true
  · obtain ⟨hq, hf⟩ := askC_iff.1 c1
    have hv := hf v (by simp)
    have hk := fits_kind hv
    rw [if_pos c1] at h
    simp [c1]
    refine ICall.lendL (es := [hpD true s, aD (eVal v)]) ⟨dat_shw (by simp), val_shw v, trivial⟩ (heapKind_ok true s v (fits_ref hv) (by omega) ⟨by simp, ?_⟩)
    simp
    exact h
  · rw [if_neg c1] at h
    rw [Bool.not_eq_true] at c1
    simp [c1]
    exact h
end Go.Proofs.YtomhiphiogbbiaaGreatDoor
