/- Several texts in one. -/
import Derived.Test.YtomhiphiogbbiaaGreatDoorMki
import Derived.Test.YtomhiphiogbbiaaGreatDoorMkj
import Derived.Test.YtomhiphiogbbiaaGreatDoorMkk
import Derived.Test.YtomhiphiogbbiaaGreatDoorMkl
set_option linter.unusedSimpArgs false
set_option linter.unusedVariables false
set_option maxRecDepth 100000
set_option maxHeartbeats 16000000
namespace Go.Proofs.YtomhiphiogbbiaaGreatDoor
open Go.RowKit Go
theorem hcAll (call : Int) : HcOk call := by
  by_cases h : call < 0 ∨ 16 ≤ call ∨ call = 5 ∨ call = 8 ∨ call = 9 ∨ call = 15
  · exact hcP h
  have : call = 0 ∨ call = 1 ∨ call = 2 ∨ call = 3 ∨ call = 4 ∨ call = 6 ∨ call = 7 ∨ call = 10 ∨ call = 11 ∨ call = 12 ∨ call = 13 ∨ call = 14 := by omega
  rcases this with rfl | rfl | rfl | rfl | rfl | rfl | rfl | rfl | rfl | rfl | rfl | rfl
  · exact hcA (.inl rfl)
  · exact hcA (.inr (.inl rfl))
  · exact hcA (.inr (.inr rfl))
  · exact hcK
  · exact hcX
  · exact hcF (.inl rfl)
  · exact hcF (.inr rfl)
  · exact hcM (.inl rfl)
  · exact hcM (.inr rfl)
  · exact hcKp
  · exact hcT
  · exact hcE
theorem valsW_arg {H : Type} {enc : TypeId × Value → H} {W : World} {held : Bool} {r : Reach} {b0 : Nat} {v : Value} {d : DataW H} {ps : List MemPlace} (hval : Value.okWide Tryz.prog W r b0 27 v) (h : DataW.Trod enc Tryz.prog W 0 (fun _ => true) held 27 v d ps) (hz : ∀ y ∈ d.weights Tryz.prog 27, y ≤ reachBytes) :
    ∃ l : List GVal, (∀ u ∈ l, InI u.n) ∧ ∀ (B : Nat → Prop) (ι : Nms), RV (Env.mk (fun b => b < W.heap.size) B) W ι (dL true (l.map eVal)) v := by
  obtain ⟨a, len, cap, rfl⟩ := WideShapes.okWide_slice Tryz.underlying27 hval
  obtain ⟨m, hm⟩ := h
  rw [show (Value.slice a len cap).cells = #[.slice a len cap] from rfl] at hm
  obtain ⟨l, l1, l2⟩ := opn_valsW enc W held [.slice a len cap] ⟨m, _, hm, hz⟩
  refine ⟨l, l1, fun B ι => ?_⟩
  rw [RV, RC]
  exact l2 ⟨fun b => b < W.heap.size, B⟩ (fun b hb => hb) 0 _ _ rfl rfl
noncomputable def kindD (s : GState) (v : GVal) : Int := if askC s [v] = true then kindW s v else 8
theorem kindC_ok (s : GState) (hs : okSt s) (v : GVal) {K : D → List Blk → Prop} (h : K (dI (kindD s v)) []) : DPure Tryz.prog 18 [aD (eState s), aD (eVal v)] K := by
  refine fn_ok [0,1,2,3,4,8] [] Tryz.func18 rfl (by kernel_rfl) rfl rfl rfl rfl (by kernel_rfl) ?_
  simp
  refine askedO_ic hs [v] (by simp) (by simp) ?_
  unfold kindD at h
  by_cases c1 : askC s [v] = true
  · obtain ⟨hq, hf⟩ := askC_iff.1 c1
    have hv := hf v (by simp)
    have hk := fits_kind hv
    rw [if_pos c1] at h
    simp [c1]
    refine ICall.lendL (es := [hpD true s, aD (eVal v)]) ⟨dat_shw (by simp), val_shw v, trivial⟩ (heapKind_ok true s v (fits_ref hv) (by omega) ⟨by simp, ?_⟩)
    simp
    exact h
  · rw [if_neg c1] at h
    rw [Bool.not_eq_true] at c1
    simp [c1]
    exact h
theorem kindD_ge (s : GState) (v : GVal) : 8 ≤ kindD s v := by
  unfold kindD
  split
  · rename_i h
    exact (kindW_in ((askC_iff.1 h).2 v (by simp))).1
  · omega
theorem cellsStay_ok (s : GState) (hw : OkW s) (of which v : GVal) (call : Int) (args : List GVal) (hv : InI v.n) (ha : ∀ u ∈ args, InI u.n) : DPure Tryz.prog 10 [aD (eState s), aD (eVal of), aD (eVal which), aD (eVal v), dI call, dL true (args.map eVal)] fun d _ => d = dB true := by
  refine fn_ok [0,1,2,3,4,5,6,7,8,9,12,13,14,15,16,17] [] Tryz.func10 rfl (by kernel_rfl) rfl rfl rfl rfl (by kernel_rfl) ?_
  simp
  refine putC_ok s hw of which v ?_
  obtain ⟨T, hT⟩ : ∃ T, T = putC s of which v := ⟨_, rfl⟩
  have hput : ¬ 0 ≤ T.2 → OkW T.1 ∧ cellsQ wordsT T.1 = 0 := fun h => by
    rw [hT] at h ⊢
    obtain ⟨g1, g2, g3, g4⟩ := okW_put hw hv h
    obtain ⟨hq, hf⟩ := askC_iff.1 g1
    rw [g2]
    exact ⟨g4, put_right hq (hf of (by simp)) (hf which (by simp)) (hf v (by simp)) g3⟩
  rw [← hT]
  clear hT
  obtain ⟨t1, t2⟩ := T
  simp only at hput ⊢
  simp
  refine callC_ok2 (hcAll call) s hw true args ?_
  obtain ⟨U, hU⟩ : ∃ U, U = callC s call args := ⟨_, rfl⟩
  have hcall : ¬ 0 ≤ U.2.2 → OkW U.1 ∧ cellsQ wordsT U.1 = 0 := fun h => by
    rw [hU] at h ⊢
    obtain ⟨-, g2, -, g4, g5⟩ := okW_call hw ha h
    rw [g2]
    exact ⟨g5, g4⟩
  rw [← hU]
  clear hU
  obtain ⟨u1, u2, u3⟩ := U
  simp only at hcall ⊢
  simp
  refine cellsLives_ok ?_
  by_cases c1 : 0 ≤ t2
  · by_cases c2 : 0 ≤ u3
    · simp [c1, c2]
    · obtain ⟨k1, k2⟩ := hcall c2
      simp [c1, c2]
      refine celCheck_ok u1 k1.ok ?_
      rw [k2]
      simp
      refine kindC_ok u1 k1.ok u2 ?_
      have := kindD_ge u1 u2
      simp [this]
  · obtain ⟨k3, k4⟩ := hput c1
    by_cases c2 : 0 ≤ u3
    · simp [c1, c2]
      refine celCheck_ok t1 k3.ok ?_
      rw [k4]
      simp [c2]
    · obtain ⟨k1, k2⟩ := hcall c2
      simp [c1, c2]
      refine celCheck_ok t1 k3.ok ?_
      rw [k4]
      simp [c2]
      refine celCheck_ok u1 k1.ok ?_
      rw [k2]
      simp
      refine kindC_ok u1 k1.ok u2 ?_
      have := kindD_ge u1 u2
      simp [this]
end Go.Proofs.YtomhiphiogbbiaaGreatDoor
