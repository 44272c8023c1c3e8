/- Several texts in one. -/
import Derived.Test.YtomhiphiogbbiaaGreatDoorMkf
set_option linter.unusedSimpArgs false
set_option linter.unusedVariables false
set_option maxRecDepth 100000
set_option maxHeartbeats 16000000
namespace Go.Proofs.YtomhiphiogbbiaaGreatDoor
open Go.RowKit Go
noncomputable def textC (s : GState) (v : GVal) : ByteArray := if askC s [v] = true then textW s v else ⟨#[]⟩
theorem textC_ok (s : GState) (hs : okSt s) (v : GVal) {K : D → List Blk → Prop} (h : K (dS (textC s v)) []) : DPure Tryz.prog 19 [aD (eState s), aD (eVal v)] K := by
  refine fn_ok [0,1,2,3,4,8] [] Tryz.func19 rfl (by kernel_rfl) rfl rfl rfl rfl (by kernel_rfl) ?_
  simp
  refine askedO_ic hs [v] (by simp) (by simp) ?_
  unfold textC at h
  by_cases c1 : askC s [v] = true
  · rw [if_pos c1] at h
    obtain ⟨hq, hf⟩ := askC_iff.1 c1
    simp [c1]
    refine ICall.lendL (es := [hpD true s, aD (eVal v)]) ⟨dat_shw (by simp), val_shw v, trivial⟩ (heapText_ok s hq v (hf v (by simp)) ⟨by simp, ?_⟩)
    simp
    exact h
  · rw [Bool.not_eq_true] at c1
    rw [if_neg (by rw [c1]; decide)] at h
    simp [c1]
    exact h


theorem valW_arg {H : Type} {enc : TypeId × Value → H} {W : World} {held : Bool} {r : Reach} {b0 : Nat} {v : Value} {d : DataW H} {ps : List MemPlace} (hval : Value.okWide Tryz.prog W r b0 31 v) (h : DataW.Trod enc Tryz.prog W 0 (fun _ => true) held 31 v d ps) (hz : ∀ y ∈ d.weights Tryz.prog 31, y ≤ reachBytes) :
    ∃ u : GVal, InI u.n ∧ ∀ (B : Nat → Prop) (ι : Nms), RV (Env.mk (fun b => b < W.heap.size) B) W ι (aD (eVal u)) v := by
  obtain ⟨cs, rfl, hsz⟩ := WideShapes.okWide_struct Tryz.underlying31 hval
  rw [show Tryz.prog.cellsOf 31 = 2 by kernel_rfl] at hsz
  obtain ⟨m, hm⟩ := h
  rw [show (Value.agg cs).cells = cs from rfl] at hm
  obtain ⟨s, s1, s2⟩ := opn_valW enc W held cs.toList ⟨m, _, hm, hz⟩
  refine ⟨s, s1, fun B ι => ?_⟩
  rw [RV]
  exact ⟨cs, rfl, rcs_of _ (by simp [hsz]) (s2 _ fun b hb => hb)⟩
end Go.Proofs.YtomhiphiogbbiaaGreatDoor
