/- Several texts in one. -/
import Derived.Test.YtnkndnbepdadhaaGreatDoorMz
set_option linter.unusedSimpArgs false
set_option linter.unusedVariables false
set_option maxRecDepth 100000
set_option maxHeartbeats 16000000
namespace Go.Proofs.YtnkndnbepdadhaaGreatDoor
open Go.RowKit Go
theorem reachAgain_ok (p : GProg) (hp : okP p) (s : GState) (hs : okSt s) : DPure Tryz.prog 5 [aD (eProg p), aD (eState s)] fun d _ => d = dB true := by
  refine fn_ok [0,1,2,3,4,5,6,7,8,9,10,11,12,33] [] Tryz.func5 rfl (by kernel_rfl) rfl rfl rfl rfl (by kernel_rfl) ?_
  simp
  refine ⟨_, rfl, Wk.refl _, ?_⟩; simp [vcC0]
  by_cases q1 : stateQ wordsT p s = 0
  case neg =>
    refine of_ok p hp s hs (fun _ => ?_) (fun e => absurd e q1)
    simp
    refine ICall.ofPure (es := [aD (eProg p), aD (eState s)]) (by simp) ?_
    refine collect_ok p hp s hs (fun _ => ?_) (fun e => absurd e q1)
    simp [zSt]
    refine reachLives_ok ?_
    simp
    refine fine_ok false [stateQ wordsT p s, stateQ wordsT p s] ?_
    simp [q1]
    refine reachLives_ok ?_
    simp
  obtain ⟨c1, c2⟩ : stateQ wordsT p s = 0 ∧ True := ⟨q1, trivial⟩
  have hg := goodS_of q1
  refine of_ok p hp s hs (fun e => absurd q1 e) (fun _ b hb => ?_)
  simp
  refine ICall.ofPure (es := [aD (eProg p), aD (eState s)]) (by simp) ?_
  refine collect_ok p hp s hs (fun e => absurd q1 e) (fun _ b' hb' => ?_)
  obtain rfl := hb.uniq hb'
  simp
  refine reachLives_ok ?_
  simp
  refine fine_ok false [0, 0] ?_
  simp
  have q2 := col_state q1 hb
  have hs2 := okSt_col (b := b) hs
  refine ICall.ofPure (es := [aD (eProg p), aD (eState (colS b s))]) (by simp) ?_
  refine collect_ok p hp _ hs2 (fun e => absurd q2 e) (fun _ b' hb' => ?_)
  obtain rfl := (seen_col hg hb).uniq hb'
  rw [col_twice]
  simp
  refine ⟨_, rfl, Wk.refl _, ?_⟩; simp [vcC0]
  refine of_ok p hp _ hs2 (fun e => absurd q2 e) (fun _ b' hb' => ?_)
  obtain rfl := (seen_col hg hb).uniq hb'
  simp
  refine fine_ok false [0, 0] ?_
  simp
  refine ⟨_, rfl, Wk.refl _, ?_⟩; simp [vcC0]
  refine stCheck_ok p hp _ hs2 ?_
  rw [q2]
  simp
  refine ⟨_, rfl, Wk.refl _, ?_⟩; simp [vcC0]
  refine same_ok _ _ ?_
  simp
  refine equalI_ok true true (ofL b) (ofL b) ?_
  simp
end Go.Proofs.YtnkndnbepdadhaaGreatDoor
