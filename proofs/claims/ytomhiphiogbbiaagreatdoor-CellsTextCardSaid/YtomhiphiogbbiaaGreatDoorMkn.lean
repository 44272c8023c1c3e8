/- Several texts in one. -/
import Derived.Test.YtomhiphiogbbiaaGreatDoorMj
import Derived.Test.YtomhiphiogbbiaaGreatDoorMkg
import Derived.Test.YtomhiphiogbbiaaGreatDoorMkk
set_option linter.unusedSimpArgs false
set_option linter.unusedVariables false
set_option maxRecDepth 100000
set_option maxHeartbeats 16000000
namespace Go.Proofs.YtomhiphiogbbiaaGreatDoor
open Go.RowKit Go
section
variable {s : GState}
theorem text_again (hq : cellsQ wordsT s = 0) {T : ByteArray} {k : Nat} (hk : idxQ s.texts T = k) : callC s 4 [⟨4, k⟩] = (s, ⟨4, k⟩, -1) ∧ textC s ⟨4, k⟩ = T := by
  obtain ⟨hkl, hkT⟩ := idxQ_get hk
  have hf : fitsB s ⟨4, k⟩ = true := by simp [fitsB, rightB, hkl]
  have ha : askC s [⟨4, k⟩] = true := askC_iff.2 ⟨hq, fun v hv => by simp at hv; subst hv; exact hf⟩
  have ht : textW s ⟨4, k⟩ = T := by
    unfold textW
    simp only
    rw [if_neg (by decide), if_neg (by decide), if_neg (by decide), if_neg (by decide), if_pos trivial, Int.toNat_natCast, List.getD_eq_getElem?_getD, List.getElem?_eq_getElem hkl]
    exact hkT
  refine ⟨?_, by unfold textC; rw [if_pos ha, ht]⟩
  have e : callW s 4 [⟨4, k⟩] = (s, ⟨4, k⟩, -1) := by
    have := callW_at (s := s) (c := 4) (args := [⟨4, (k : Int)⟩]) (by omega) rfl (by simp [argsB, formB, argB_any])
    rw [show ((4 : Nat) : Int) = 4 from rfl] at this
    rw [this]
    simp only [callR, valAt, List.getD_cons_zero]
    rw [ht]
    unfold internW
    rw [hk, if_pos (by omega)]
  rw [← e]
  exact callC_ok ha (by rw [e])
theorem text_law {v : GVal} (h : ¬ 0 ≤ (callC s 4 [v]).2.2) : ∃ (t : GState) (k : Nat), callC s 4 [v] = (t, ⟨4, k⟩, -1) ∧ callC t 4 [⟨4, k⟩] = (t, ⟨4, k⟩, -1) ∧ textC t ⟨4, k⟩ = textC s v := by
  obtain ⟨g1, g2, g3⟩ := callC_neg h
  obtain ⟨g4, g5, g6⟩ := callW_neg (c := 4) (by omega) g2
  obtain ⟨hq, hf⟩ := askC_iff.1 g1
  have g6' : callW s 4 [v] = callR s 4 [v] := g6
  have g2' : ¬ 0 ≤ (callW s 4 [v]).2.2 := g2
  have hT : textC s v = textW s v := by unfold textC; rw [if_pos g1]
  rw [g3, hT]
  rw [g6'] at g2' ⊢
  simp only [callR, valAt, List.getD_cons_zero] at g2' ⊢
  generalize textW s v = T at *
  have hr := (intern_right (args := []) hq g2').2.q
  unfold internW at g2' hr ⊢
  by_cases c1 : 0 ≤ idxQ s.texts T
  · rw [if_pos c1]
    obtain ⟨k, hk⟩ : ∃ k : Nat, idxQ s.texts T = k := ⟨(idxQ s.texts T).toNat, by omega⟩
    rw [hk]
    exact ⟨s, k, rfl, text_again hq hk⟩
  rw [if_neg c1] at g2' hr ⊢
  by_cases c2 : 300 ≤ s.texts.length ∨ 200 < T.size
  · rw [if_pos c2] at g2'; exact absurd (by simp) g2'
  rw [if_neg c2] at hr ⊢
  exact ⟨_, s.texts.length, rfl, text_again hr (idxQ_new fun e => c1 (idxQ_in.2 e))⟩
end
theorem cellsText_ok (s : GState) (hw : OkW s) (v : GVal) (hv : InI v.n) : DPure Tryz.prog 9 [aD (eState s), aD (eVal v)] fun d _ => d = dB true := by
  refine fn_ok [0,1,2,3,4,5,6,7,8,9,10,24] [(5, [0,1,3,7,7,31,63,127,255,255,1023,2047,4095,8191,8191,32767,8191,8191,262143,524287,1048575,2097151], (.seg 0 (.seg 1 (.seg 2 (.seg 3 (.seg 4 (.seg 5 (.seg 6 (.seg 7 (.seg 8 (.seg 9 (.eff 10 [] (.seg 11 (.seg 12 (.seg 13 (.seg 14 (.seg 16 (.seg 17 (.eff 15 [16, 17] (.eff 18 [] (.seg 19 (.seg 20 (.seg 21 .last)))))))))))))))))))))))] Tryz.func9 rfl (by kernel_rfl) rfl rfl rfl rfl (by kernel_rfl) ?_
  simp
  refine callC_ok2 hcX s hw false [v] ?_
  by_cases c1 : 0 ≤ (callC s 4 [v]).2.2
  · obtain ⟨e, he⟩ : ∃ e, (callC s 4 [v]).2.2 = e := ⟨_, rfl⟩
    rw [callC_bad c1, he]
    rw [he] at c1
    simp
    refine cellsLives_ok ?_
    simp [c1]
    refine cellsLives_ok ?_
    simp [emptyS]
  obtain ⟨t, k, e1, e2, e3⟩ := text_law c1
  obtain ⟨-, h2, -, -, h5⟩ := okW_call hw (fun u hu => by simp at hu; rcases hu with rfl; assumption) c1
  rw [← h2, e1] at h5
  rw [e1]
  simp
  refine cellsLives_ok ?_
  simp
  refine callC_ok2 hcX t h5 false [⟨4, k⟩] ?_
  rw [e2]
  simp
  refine sameStates_ok t t ?_
  simp
  refine textC_ok t h5.ok ⟨4, k⟩ ?_
  simp
  refine textC_ok s hw.ok v ?_
  rw [e3]
  simp
end Go.Proofs.YtomhiphiogbbiaaGreatDoor
