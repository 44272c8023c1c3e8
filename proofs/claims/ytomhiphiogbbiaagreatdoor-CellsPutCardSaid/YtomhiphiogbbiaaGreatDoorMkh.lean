/- Several texts in one. -/
import Derived.Test.YtomhiphiogbbiaaGreatDoorMj
import Derived.Test.YtomhiphiogbbiaaGreatDoorMkg
set_option linter.unusedSimpArgs false
set_option linter.unusedVariables false
set_option maxRecDepth 100000
set_option maxHeartbeats 16000000
namespace Go.Proofs.YtomhiphiogbbiaaGreatDoor
open Go.RowKit Go
theorem cellsStack_ok (s : GState) (hw : OkW s) (list v : GVal) (hv : InI v.n) : DPure Tryz.prog 6 [aD (eState s), aD (eVal list), aD (eVal v)] fun d _ => d = dB true := by
  refine fn_ok [0,1,2,3,4,5,6,7,8,9,10,11,12,13,14,15,42] [] Tryz.func6 rfl (by kernel_rfl) rfl rfl rfl rfl (by kernel_rfl) ?_
  simp
  refine callC_ok2 (hcA (.inr (.inl rfl))) s hw false [list, v] ?_
  by_cases c1 : 0 ≤ (callC s 1 [list, v]).2.2
  · obtain ⟨e, he⟩ : ∃ e, (callC s 1 [list, v]).2.2 = e := ⟨_, rfl⟩
    rw [callC_bad c1, he]
    rw [he] at c1
    simp
    refine callC_ok2 (hcA (.inl rfl)) s hw false [list] ?_
    generalize callC s 0 [list] = R
    simp
    refine cellsLives_ok ?_
    simp [c1]
    refine cellsLives_ok ?_
    simp [emptyS]
  · obtain ⟨m, hm, e1, e2, e3⟩ := stack_law c1
    have hw2 := okW_push hw hv c1
    generalize hR : callC s 1 [list, v] = R at *
    obtain ⟨t, g, e⟩ := R
    simp only at e1 e2 e3 hw2 c1
    subst e1
    have hwr : IntKind.i64.wrap ((m : Int) + 1) = (m : Int) + 1 := wrap_id (by omega) (by omega)
    simp
    refine callC_ok2 (hcA (.inl rfl)) s hw false [list] ?_
    rw [e2]
    simp
    refine cellsLives_ok ?_
    simp [c1]
    refine callC_ok2 (hcA (.inr (.inr rfl))) t hw2 false [list] ?_
    rw [e3]
    simp [hwr]
    refine sameStates_ok s s ?_
    simp
    refine sameStates_ok s s ?_
    simp
theorem putC_bad {s : GState} {of which v : GVal} (h : 0 ≤ (putC s of which v).2) : putC s of which v = (emptyS, (putC s of which v).2) := by
  unfold putC at h ⊢
  by_cases c1 : askC s [of, which, v] = true
  · rw [if_pos c1] at h ⊢
    by_cases c2 : 0 ≤ (putW s of which v).2
    · rw [if_pos c2]
    · rw [if_neg c2] at h; exact absurd h (by simp)
  · rw [if_neg c1]
theorem put_k {s : GState} {of which v : GVal} (h : cellsQ wordsT s = 0) (ho : fitsB s of = true) (ht : (putW s of which v).2 = -1) : SameK s (putW s of which v).1 := by
  obtain ⟨n, hn, rfl, hat, hc⟩ := put_cases h ho ht
  rcases hc with ⟨k, h1, h2, h3⟩ | ⟨h1, h2, h3, h4, h5, M, q, h6, h7⟩
  · rw [h3]
    exact setCS_k hn rfl fun _ => rfl
  · rw [h7]
    exact setCS_k hn rfl fun e => absurd h1 (by simp only at e; omega)
theorem put_law {s : GState} {of which v : GVal} (other name : GVal) (h : ¬ 0 ≤ (putC s of which v).2) : ∃ t, putC s of which v = (t, -1) ∧ getC t of which = (v, -1) ∧ (getC t other name).2 = (getC s other name).2 ∧ ((other = of ∧ name = which) ∨ (getC t other name).1 = (getC s other name).1) := by
  unfold putC at h ⊢
  by_cases c1 : askC s [of, which, v] = true
  case neg => rw [if_neg c1] at h; exact absurd (by simp) h
  rw [if_pos c1] at h ⊢
  by_cases c2 : 0 ≤ (putW s of which v).2
  · rw [if_pos c2] at h; exact absurd c2 h
  rw [if_neg c2]
  have ht : (putW s of which v).2 = -1 := (put_le s of which v).resolve_right c2
  obtain ⟨hq, hf⟩ := askC_iff.1 c1
  have ho := hf of (by simp)
  have hr := put_right hq ho (hf which (by simp)) (hf v (by simp)) ht
  have hg := put_got hq ho ht
  have hK := put_k hq ho ht
  have hel := put_else hq ho ht other name
  generalize (putW s of which v).1 = t at *
  have hfit := hK.fits
  refine ⟨t, rfl, ?_, ?_⟩
  · unfold getC
    rw [if_pos (askC_iff.2 ⟨hr, fun u hu => by rw [hfit]; simp at hu; rcases hu with rfl | rfl; exact hf _ (by simp); exact hf _ (by simp)⟩)]
    exact hg
  · by_cases ho : askC s [other, name] = true
    · obtain ⟨-, hf2⟩ := askC_iff.1 ho
      have e1 : getC t other name = getW t other name := by unfold getC; rw [if_pos (askC_iff.2 ⟨hr, fun u hu => by rw [hfit]; exact hf2 u hu⟩)]
      have e2 : getC s other name = getW s other name := by unfold getC; rw [if_pos ho]
      rw [e1, e2]
      exact hel (hf2 other (by simp))
    · have ho2 : ¬ askC t [other, name] = true := fun e => ho (askC_iff.2 ⟨hq, fun u hu => by rw [← hfit]; exact (askC_iff.1 e).2 u hu⟩)
      have e1 : getC t other name = (⟨0, 0⟩, 6) := by unfold getC; rw [if_neg ho2]
      have e2 : getC s other name = (⟨0, 0⟩, 6) := by unfold getC; rw [if_neg ho]
      rw [e1, e2]
      exact ⟨rfl, .inr rfl⟩
theorem cellsPut_ok (s : GState) (hw : OkW s) (of which v other name : GVal) (hv : InI v.n) : DPure Tryz.prog 5 [aD (eState s), aD (eVal of), aD (eVal which), aD (eVal v), aD (eVal other), aD (eVal name)] fun d _ => d = dB true := by
  refine fn_ok [0,1,2,3,4,5,6,7,8,9,10,11,12,13,14,15,16,17,18,19,20,34] [] Tryz.func5 rfl (by kernel_rfl) rfl rfl rfl rfl (by kernel_rfl) ?_
  simp
  refine putC_ok s hw of which v ?_
  by_cases c1 : 0 ≤ (putC s of which v).2
  · obtain ⟨e, he⟩ : ∃ e, (putC s of which v).2 = e := ⟨_, rfl⟩
    rw [putC_bad c1, he]
    rw [he] at c1
    simp
    refine cellsLives_ok ?_
    simp [c1]
    refine cellsLives_ok ?_
    simp [emptyS]
  · obtain ⟨t, e1, e2, e3, e4⟩ := put_law other name c1
    have hw2 := (okW_put hw hv c1).2.2.2
    have e5 := (okW_put hw hv c1).2.1
    rw [e5] at e1
    have e6 : (putW s of which v).1 = t := (Prod.mk.injEq _ _ _ _ ▸ e1).1
    rw [e5, e6]
    rw [e6] at hw2
    clear e1 e5 e6
    simp
    refine cellsLives_ok ?_
    simp
    refine getC_ok t hw2.ok of which ?_
    rw [e2]
    simp
    refine getC_ok s hw.ok other name ?_
    simp
    refine getC_ok t hw2.ok other name ?_
    rw [e3]
    obtain ⟨a, ha⟩ : ∃ a, a = getC s other name := ⟨_, rfl⟩
    obtain ⟨b, hb⟩ : ∃ b, b = (getC t other name).1 := ⟨_, rfl⟩
    rw [← ha, ← hb] at e4 ⊢
    clear ha hb e2 e3
    simp
    obtain ⟨⟨ak, an⟩, ae⟩ := a
    obtain ⟨bk, bn⟩ := b
    obtain ⟨ok, on⟩ := other
    obtain ⟨fk, fn⟩ := of
    obtain ⟨nk, nn⟩ := name
    obtain ⟨wk, wn⟩ := which
    simp at e4 ⊢
    trace_state
    grind
end Go.Proofs.YtomhiphiogbbiaaGreatDoor
