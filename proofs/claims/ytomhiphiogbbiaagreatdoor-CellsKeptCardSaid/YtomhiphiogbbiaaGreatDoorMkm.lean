/- Several texts in one. -/
import Derived.Test.YtomhiphiogbbiaaGreatDoorMkj
import Derived.Test.YtomhiphiogbbiaaGreatDoorMkk
set_option linter.unusedSimpArgs false
set_option linter.unusedVariables false
set_option maxRecDepth 100000
set_option maxHeartbeats 16000000
namespace Go.Proofs.YtomhiphiogbbiaaGreatDoor
open Go.RowKit Go
theorem cellsKept_ok (s : GState) (hw : OkW s) (a key v other : GVal) (ha : InI a.n) (hk : InI key.n) (hv : InI v.n) : DPure Tryz.prog 8 [aD (eState s), aD (eVal a), aD (eVal key), aD (eVal v), aD (eVal other)] fun d _ => d = dB true := by
  refine fn_ok [0,1,2,3,4,5,6,7,8,9,10,11,13,15,16,18,19,21,22,47] [] Tryz.func8 rfl (by kernel_rfl) rfl rfl rfl rfl (by kernel_rfl) ?_
  simp
  refine callC_ok2 hcKp s hw false [a, key, v] ?_
  by_cases c1 : 0 ≤ (callC s 12 [a, key, v]).2.2
  · obtain ⟨e, he⟩ : ∃ e, (callC s 12 [a, key, v]).2.2 = e := ⟨_, rfl⟩
    rw [callC_bad c1, he]
    rw [he] at c1
    simp
    refine callC_ok2 hcT s hw false [a, other] ?_
    generalize callC s 13 [a, other] = R
    simp
    refine cellsLives_ok ?_
    simp [c1]
    refine cellsLives_ok ?_
    simp
  obtain ⟨l1, l2, l3⟩ := kept_law other c1
  obtain ⟨-, h2, h3, -, h5⟩ := okW_call hw (fun u hu => by simp at hu; rcases hu with rfl | rfl | rfl <;> assumption) c1
  rw [← h2] at h3 h5
  rw [h3]
  generalize callC s 12 [a, key, v] = R1 at *
  obtain ⟨S1, w1, t1⟩ := R1
  simp only at l1 l2 l3 h5 h3 ⊢
  simp
  refine callC_ok2 hcT s hw false [a, other] ?_
  obtain ⟨R2, hR2⟩ : ∃ R2, R2 = callC s 13 [a, other] := ⟨_, rfl⟩
  rw [← hR2] at l2 l3 ⊢
  simp
  refine cellsLives_ok ?_
  simp
  refine callC_ok2 hcT S1 h5 false [a, key] ?_
  rw [l1]
  simp
  refine callC_ok2 hcT S1 h5 false [a, other] ?_
  rw [l2]
  obtain ⟨x, hx⟩ : ∃ x, x = (callC S1 13 [a, other]).2.1 := ⟨_, rfl⟩
  rw [← hx] at l3 ⊢
  clear l1 l2 hx hR2
  obtain ⟨z, y, e⟩ := R2
  simp only at l3 ⊢
  simp
  intro h
  rcases l3 with rfl | rfl
  · exact absurd rfl (h rfl)
  · exact ⟨rfl, rfl⟩
end Go.Proofs.YtomhiphiogbbiaaGreatDoor
