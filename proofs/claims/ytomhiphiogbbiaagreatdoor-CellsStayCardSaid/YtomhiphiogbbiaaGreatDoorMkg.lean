/- Several texts in one. -/
import Derived.Test.YtomhiphiogbbiaaGreatDoorMkf
set_option linter.unusedSimpArgs false
set_option linter.unusedVariables false
set_option maxRecDepth 100000
set_option maxHeartbeats 16000000
namespace Go.Proofs.YtomhiphiogbbiaaGreatDoor
open Go.RowKit Go
noncomputable def textC (s : GState) (v : GVal) : ByteArray := if askC s [v] = true then textW s v else ⟨#[]⟩
theorem textC_ok (s : GState) (hs : okSt s) (v : GVal) {K : D → List Blk → Prop} (h : K (dS (textC s v)) []) : DPure Tryz.prog 19 [aD (eState s), aD (eVal v)] K := by
  refine fn_ok [0,1,2,3,4,8] [] Tryz.func19 rfl (by kernel_rfl) rfl rfl rfl rfl (by kernel_rfl) ?_
  simp
  refine askedO_ic hs [v] (by simp) (by simp) ?_
  unfold textC at h
  by_cases c1 : askC s [v] = true
  · rw [if_pos c1] at h
    obtain ⟨hq, hf⟩ := askC_iff.1 c1
    simp [c1]
    refine ICall.lendL (es := [hpD true s, aD (eVal v)]) ⟨dat_shw (by simp), val_shw v, trivial⟩ (heapText_ok s hq v (hf v (by simp)) ⟨by simp, ?_⟩)
    simp
    exact h
  · rw [Bool.not_eq_true] at c1
    rw [if_neg (by rw [c1]; decide)] at h
    simp [c1]
    exact h
theorem refToC_ok (n : Int) {K : D → List Blk → Prop} (h : K (aD (eVal ⟨5, n⟩)) []) : DPure Tryz.prog 86 [dI n] K := by
  refine fn_ok [0,2] [] Tryz.func86 rfl (by kernel_rfl) rfl rfl rfl rfl (by kernel_rfl) ?_
  simp
  exact h
theorem numC_ok (n : Int) {K : D → List Blk → Prop} (h : K (aD (eVal ⟨2, n⟩)) []) : DPure Tryz.prog 87 [dI n] K := by
  refine fn_ok [0,2] [] Tryz.func87 rfl (by kernel_rfl) rfl rfl rfl rfl (by kernel_rfl) ?_
  simp
  exact h
theorem rootC_ok {K : D → List Blk → Prop} (h : K (.one (.own 0 2 1)) [⟨.c 87, 2, [[.d (eI (-1)), .d (eI (-1))]]⟩]) : DPure Tryz.prog 149 [] K := by
  refine fn_ok [0] [] Tryz.func149 rfl (by kernel_rfl) rfl rfl rfl rfl (by kernel_rfl) ?_
  simp
  exact h
def plainS : GState := ⟨[⟨1, 0, [], []⟩, ⟨2, 0, [], []⟩], [(-1, -1)], wordsT, [], [], [], 0, 0⟩
theorem plainState_ok {K : D → List Blk → Prop} (h : K (aD (eState plainS)) []) : DPure Tryz.prog 85 [] K := by
  refine DPure.give ?_
  refine fn_ok [0] [] Tryz.func85 rfl (by kernel_rfl) rfl rfl rfl rfl (by kernel_rfl) ?_
  simp
  refine rootC_ok ?_
  simp
  refine words_ok ?_
  obtain ⟨W, hW⟩ : ∃ W, W = wordsT := ⟨_, rfl⟩
  have hp : plainS = ⟨[⟨1, 0, [], []⟩, ⟨2, 0, [], []⟩], [(-1, -1)], W, [], [], [], 0, 0⟩ := by rw [hW]; rfl
  rw [hp] at h
  rw [← hW]
  simp
  rw [show List.idxOf 2 [1, 2, 3] = 1 from rfl, show List.idxOf 3 [1, 2, 3] = 2 from rfl]
  refine ⟨_, ?_, h⟩
  refine CsS.csShw (ds := eState ⟨[⟨1, 0, [], []⟩, ⟨2, 0, [], []⟩], [(-1, -1)], W, [], [], [], 0, 0⟩) ?_
  refine ⟨Shw.rows trivial rfl (by simp) (by simp) ⟨⟨.d rfl, .d rfl, .emp, .emp, trivial⟩, ⟨.d rfl, .d rfl, .emp, .emp, trivial⟩, trivial⟩, Shw.row trivial rfl (by simp) (by simp) (by simp) (by simp) (by simp), Shw.row trivial rfl (by simp) (by simp) (by simp) (by simp) (by simp), .emp, .emp, .emp, .d rfl, .d rfl, trivial⟩
def liveT : GState := ⟨[⟨1, 1, [⟨2, 7⟩], []⟩, ⟨2, 0, [], []⟩], [(-1, -1), (0, 3)], wordsT, [], [], [], 0, 0⟩
def liveU : GState := ⟨[⟨1, 1, [⟨2, 7⟩], []⟩, ⟨2, 0, [⟨2, 9⟩], []⟩], [(-1, -1), (0, 3)], wordsT, [], [], [], 0, 0⟩
theorem lv_f1 : faultP [(-1, -1), (0, 3)] = 0 := fault_ok (by decide) ⟨by decide, rfl, fun j h0 h1 => by
  obtain rfl : j = 1 := by simp at h1; omega
  exact ⟨by decide, by decide, by decide, by decide, by decide⟩⟩
theorem lv_words : wordsB wordsT wordsT = true := by kernel_rfl
theorem lv_n0 : namesQ [(-1, -1)] 0 = [] := by
  unfold namesQ
  rw [root_okay, if_neg (by decide)]
  rfl
theorem lv_n1 : namesQ [(-1, -1), (0, 3)] 1 = [3] := by
  unfold namesQ
  rw [lv_f1, if_neg (by decide)]
  rfl
theorem lv_with : withP [(-1, -1)] 0 3 = ([(-1, -1), (0, 3)], 1, 0) := by
  unfold withP
  rw [root_okay, if_neg (by decide), if_neg (by decide), if_neg (by decide), if_neg (by decide), if_neg (by decide)]
  rfl
theorem plain_q : cellsQ wordsT plainS = 0 := by
  rw [cellsQ_iff]
  exact ⟨by kernel_rfl, root_okay, lv_words, by kernel_rfl, by kernel_rfl, rfl, rfl⟩
theorem liveT_q : cellsQ wordsT liveT = 0 := by
  rw [cellsQ_iff]
  exact ⟨by kernel_rfl, lv_f1, lv_words, by kernel_rfl, by kernel_rfl, rfl, rfl⟩
theorem liveU_q : cellsQ wordsT liveU = 0 := by
  rw [cellsQ_iff]
  exact ⟨by kernel_rfl, lv_f1, lv_words, by kernel_rfl, by kernel_rfl, rfl, rfl⟩
theorem live_put : putC plainS ⟨5, 0⟩ ⟨4, 3⟩ ⟨2, 7⟩ = (liveT, -1) := by
  have h1 : slotW plainS ⟨5, 0⟩ ⟨4, 3⟩ = (-1, -1) := by
    rw [slotW_eq]
    show slotC [(-1, -1)] ⟨1, 0, [], []⟩ ⟨4, 3⟩ = _
    simp [slotC, lv_n0, idxQ]
  have h2 : putW plainS ⟨5, 0⟩ ⟨4, 3⟩ ⟨2, 7⟩ = (liveT, -1) := by
    unfold putW
    rw [h1]
    simp [cellAt, plainS, lv_with, setCS, liveT]
  unfold putC
  rw [h2, if_pos (by rw [askC_iff]; exact ⟨plain_q, fun v hv => by simp at hv; rcases hv with rfl | rfl | rfl <;> kernel_rfl⟩)]
  rfl
theorem live_get : getC liveT ⟨5, 0⟩ ⟨4, 3⟩ = (⟨2, 7⟩, -1) := by
  have h1 : slotW liveT ⟨5, 0⟩ ⟨4, 3⟩ = (0, -1) := by
    rw [slotW_eq]
    show slotC [(-1, -1), (0, 3)] ⟨1, 1, [⟨2, 7⟩], []⟩ ⟨4, 3⟩ = _
    simp [slotC, lv_n1, idxQ]
  unfold getC
  rw [if_pos (by rw [askC_iff]; exact ⟨liveT_q, fun v hv => by simp at hv; rcases hv with rfl | rfl <;> kernel_rfl⟩)]
  unfold getW
  rw [h1]
  rfl
theorem live_push : callC liveT 1 [⟨5, 1⟩, ⟨2, 9⟩] = (liveU, ⟨2, 1⟩, -1) := by
  have h2 : callW liveT 1 [⟨5, 1⟩, ⟨2, 9⟩] = (liveU, ⟨2, 1⟩, -1) := by kernel_rfl
  unfold callC
  rw [h2, if_pos (by rw [askC_iff]; exact ⟨liveT_q, fun v hv => by simp at hv; rcases hv with rfl | rfl <;> kernel_rfl⟩)]
  rfl
theorem live_get2 : getC liveU ⟨5, 1⟩ ⟨2, 0⟩ = (⟨2, 9⟩, -1) := by
  have h1 : slotW liveU ⟨5, 1⟩ ⟨2, 0⟩ = (0, -1) := by
    rw [slotW_eq]
    show slotC [(-1, -1), (0, 3)] ⟨2, 0, [⟨2, 9⟩], []⟩ ⟨2, 0⟩ = _
    simp [slotC]
  unfold getC
  rw [if_pos (by rw [askC_iff]; exact ⟨liveU_q, fun v hv => by simp at hv; rcases hv with rfl | rfl <;> kernel_rfl⟩)]
  unfold getW
  rw [h1]
  rfl
theorem live_get3 : getC liveT ⟨5, 1⟩ ⟨2, 0⟩ = (⟨0, 0⟩, 3) := by
  have h1 : slotW liveT ⟨5, 1⟩ ⟨2, 0⟩ = (-1, 3) := by
    rw [slotW_eq]
    show slotC [(-1, -1), (0, 3)] ⟨2, 0, [], []⟩ ⟨2, 0⟩ = _
    simp [slotC]
  unfold getC
  rw [if_pos (by rw [askC_iff]; exact ⟨liveT_q, fun v hv => by simp at hv; rcases hv with rfl | rfl <;> kernel_rfl⟩)]
  unfold getW
  rw [h1]
  rfl
theorem live_text : textC liveT ⟨5, 1⟩ = ⟨#[91, 108, 105, 115, 116, 93]⟩ := by
  unfold textC
  rw [if_pos (by rw [askC_iff]; exact ⟨liveT_q, fun v hv => by simp at hv; rcases hv with rfl <;> kernel_rfl⟩)]
  kernel_rfl
theorem live_ok {s : GState} (h1 : s.texts = wordsT) (h2 : ∀ x ∈ s.shapes, InS x) (h3 : ∀ c ∈ s.cells, (∀ v ∈ c.vals, InI v.n) ∧ c.frames = []) (h4 : s.threads = []) : OkW s := by
  have hw : wordsT.all (fun t => decide (t.size ≤ 200)) = true := by kernel_rfl
  refine ⟨⟨fun t ht => ?_, h2, fun c hc => ⟨(h3 c hc).1, fun f hf => by rw [(h3 c hc).2] at hf; cases hf⟩⟩, fun c hc => ?_, ?_⟩
  · rw [h1] at ht
    have := List.all_eq_true.1 hw t ht
    simp at this
    unfold maxLen
    omega
  · rw [(h3 c hc).2]
    exact ⟨by simp, fun f hf => by cases hf⟩
  · rw [h4]
    exact ⟨by simp, fun f hf => by cases hf⟩
theorem plain_ok : OkW plainS := live_ok rfl (by simp [plainS, InS, InI]) (by simp [plainS]) rfl
theorem liveT_ok : OkW liveT := live_ok rfl (by simp [liveT, InS, InI]) (by simp [liveT, InI]) rfl
theorem liveU_ok : OkW liveU := live_ok rfl (by simp [liveU, InS, InI]) (by simp [liveU, InI]) rfl
theorem cutA {G R : Prop} (h : R → G) (r : R) : G := h r
theorem cutC {G R1 R2 : Prop} (h : R1 → R2 → G) (r : R1 ∧ R2) : G := h r.1 r.2
theorem cutB {G R0 R1 R2 R3 R4 R5 R6 : Prop} (h : R0 → R1 → R2 → R3 → R4 → R5 → R6 → G) (r : R0 ∧ R1 ∧ R2 ∧ R3 ∧ R4 ∧ R5 ∧ R6) : G := by
  obtain ⟨r0, r1, r2, r3, r4, r5, r6⟩ := r
  exact h r0 r1 r2 r3 r4 r5 r6
theorem cellsLives_ok {K : D → List Blk → Prop} (h : K (dB true) []) : DPure Tryz.prog 27 [] K := by
  refine fn_ok [0,1,2,3,4,5,6,7,8,9,11] [(2, [0,0,0,7,15,31,31,0,191,511], (.seg 0 (.seg 2 (.fork 1 [0, 2] (.fork 3 [] (.seg 4 (.seg 5 (.seg 6 (.eff 7 [] (.eff 8 [] (.seg 9 .last)))))) (.eff 7 [0, 2] (.eff 3 [] (.seg 4 (.seg 5 (.seg 6 (.eff 8 [] (.seg 9 .last)))))))) (.eff 7 [0, 2] (.eff 1 [0, 2] (.eff 3 [] (.seg 4 (.seg 5 (.seg 6 (.eff 8 [] (.seg 9 .last)))))))))))), (3, [0,0,2,6,15,31,63,63,63,0,0,1663,3839,8191], (.seg 0 (.fork 1 [0] (.fork 2 [0] (.fork 3 [0] (.fork 4 [] (.seg 5 (.seg 6 (.seg 7 (.seg 8 (.fork 9 [] (.eff 10 [] (.eff 11 [] (.eff 12 [] (.seg 13 .last)))) (.eff 10 [] (.eff 9 [] (.eff 11 [] (.eff 12 [] (.seg 13 .last)))))))))) (.fork 9 [0] (.fork 4 [] (.seg 5 (.seg 6 (.seg 7 (.seg 8 (.eff 10 [] (.eff 11 [] (.eff 12 [] (.seg 13 .last)))))))) (.eff 10 [0] (.eff 4 [] (.seg 5 (.seg 6 (.seg 7 (.seg 8 (.eff 11 [] (.eff 12 [] (.seg 13 .last)))))))))) (.eff 10 [0] (.fork 4 [] (.seg 5 (.seg 6 (.seg 7 (.seg 8 (.eff 9 [] (.eff 11 [] (.eff 12 [] (.seg 13 .last)))))))) (.eff 9 [0] (.eff 4 [] (.seg 5 (.seg 6 (.seg 7 (.seg 8 (.eff 11 [] (.eff 12 [] (.seg 13 .last))))))))))))) (.fork 9 [0] (.fork 3 [0] (.fork 4 [] (.seg 5 (.seg 6 (.seg 7 (.seg 8 (.eff 10 [] (.eff 11 [] (.eff 12 [] (.seg 13 .last)))))))) (.eff 10 [0] (.eff 4 [] (.seg 5 (.seg 6 (.seg 7 (.seg 8 (.eff 11 [] (.eff 12 [] (.seg 13 .last)))))))))) (.eff 10 [0] (.eff 3 [0] (.eff 4 [] (.seg 5 (.seg 6 (.seg 7 (.seg 8 (.eff 11 [] (.eff 12 [] (.seg 13 .last))))))))))) (.eff 10 [0] (.fork 3 [0] (.fork 4 [] (.seg 5 (.seg 6 (.seg 7 (.seg 8 (.eff 9 [] (.eff 11 [] (.eff 12 [] (.seg 13 .last)))))))) (.eff 9 [0] (.eff 4 [] (.seg 5 (.seg 6 (.seg 7 (.seg 8 (.eff 11 [] (.eff 12 [] (.seg 13 .last)))))))))) (.eff 9 [0] (.eff 3 [0] (.eff 4 [] (.seg 5 (.seg 6 (.seg 7 (.seg 8 (.eff 11 [] (.eff 12 [] (.seg 13 .last)))))))))))))) (.fork 9 [0] (.fork 2 [0] (.fork 3 [0] (.fork 4 [] (.seg 5 (.seg 6 (.seg 7 (.seg 8 (.eff 10 [] (.eff 11 [] (.eff 12 [] (.seg 13 .last)))))))) (.eff 10 [0] (.eff 4 [] (.seg 5 (.seg 6 (.seg 7 (.seg 8 (.eff 11 [] (.eff 12 [] (.seg 13 .last)))))))))) (.eff 10 [0] (.eff 3 [0] (.eff 4 [] (.seg 5 (.seg 6 (.seg 7 (.seg 8 (.eff 11 [] (.eff 12 [] (.seg 13 .last))))))))))) (.eff 10 [0] (.eff 2 [0] (.eff 3 [0] (.eff 4 [] (.seg 5 (.seg 6 (.seg 7 (.seg 8 (.eff 11 [] (.eff 12 [] (.seg 13 .last)))))))))))) (.eff 10 [0] (.fork 2 [0] (.fork 3 [0] (.fork 4 [] (.seg 5 (.seg 6 (.seg 7 (.seg 8 (.eff 9 [] (.eff 11 [] (.eff 12 [] (.seg 13 .last)))))))) (.eff 9 [0] (.eff 4 [] (.seg 5 (.seg 6 (.seg 7 (.seg 8 (.eff 11 [] (.eff 12 [] (.seg 13 .last)))))))))) (.eff 9 [0] (.eff 3 [0] (.eff 4 [] (.seg 5 (.seg 6 (.seg 7 (.seg 8 (.eff 11 [] (.eff 12 [] (.seg 13 .last))))))))))) (.eff 9 [0] (.eff 2 [0] (.eff 3 [0] (.eff 4 [] (.seg 5 (.seg 6 (.seg 7 (.seg 8 (.eff 11 [] (.eff 12 [] (.seg 13 .last))))))))))))))) (.fork 9 [0] (.fork 1 [0] (.fork 2 [0] (.fork 3 [0] (.fork 4 [] (.seg 5 (.seg 6 (.seg 7 (.seg 8 (.eff 10 [] (.eff 11 [] (.eff 12 [] (.seg 13 .last)))))))) (.eff 10 [0] (.eff 4 [] (.seg 5 (.seg 6 (.seg 7 (.seg 8 (.eff 11 [] (.eff 12 [] (.seg 13 .last)))))))))) (.eff 10 [0] (.eff 3 [0] (.eff 4 [] (.seg 5 (.seg 6 (.seg 7 (.seg 8 (.eff 11 [] (.eff 12 [] (.seg 13 .last))))))))))) (.eff 10 [0] (.eff 2 [0] (.eff 3 [0] (.eff 4 [] (.seg 5 (.seg 6 (.seg 7 (.seg 8 (.eff 11 [] (.eff 12 [] (.seg 13 .last)))))))))))) (.eff 10 [0] (.eff 1 [0] (.eff 2 [0] (.eff 3 [0] (.eff 4 [] (.seg 5 (.seg 6 (.seg 7 (.seg 8 (.eff 11 [] (.eff 12 [] (.seg 13 .last))))))))))))) (.eff 10 [0] (.fork 1 [0] (.fork 2 [0] (.fork 3 [0] (.fork 4 [] (.seg 5 (.seg 6 (.seg 7 (.seg 8 (.eff 9 [] (.eff 11 [] (.eff 12 [] (.seg 13 .last)))))))) (.eff 9 [0] (.eff 4 [] (.seg 5 (.seg 6 (.seg 7 (.seg 8 (.eff 11 [] (.eff 12 [] (.seg 13 .last)))))))))) (.eff 9 [0] (.eff 3 [0] (.eff 4 [] (.seg 5 (.seg 6 (.seg 7 (.seg 8 (.eff 11 [] (.eff 12 [] (.seg 13 .last))))))))))) (.eff 9 [0] (.eff 2 [0] (.eff 3 [0] (.eff 4 [] (.seg 5 (.seg 6 (.seg 7 (.seg 8 (.eff 11 [] (.eff 12 [] (.seg 13 .last)))))))))))) (.eff 9 [0] (.eff 1 [0] (.eff 2 [0] (.eff 3 [0] (.eff 4 [] (.seg 5 (.seg 6 (.seg 7 (.seg 8 (.eff 11 [] (.eff 12 [] (.seg 13 .last)))))))))))))))))), (4, [0,0,2,7,15,31,31,0,191,511], (.seg 0 (.fork 1 [0] (.fork 2 [0] (.fork 3 [] (.seg 4 (.seg 5 (.seg 6 (.eff 7 [] (.eff 8 [] (.seg 9 .last)))))) (.eff 7 [0] (.eff 3 [] (.seg 4 (.seg 5 (.seg 6 (.eff 8 [] (.seg 9 .last)))))))) (.eff 7 [0] (.eff 2 [0] (.eff 3 [] (.seg 4 (.seg 5 (.seg 6 (.eff 8 [] (.seg 9 .last))))))))) (.eff 7 [0] (.eff 1 [0] (.eff 2 [0] (.eff 3 [] (.seg 4 (.seg 5 (.seg 6 (.eff 8 [] (.seg 9 .last)))))))))))), (5, [0,0,2,7,15,31,31,0,191,511], (.seg 0 (.fork 1 [0] (.fork 2 [0] (.fork 3 [] (.seg 4 (.seg 5 (.seg 6 (.eff 7 [] (.eff 8 [] (.seg 9 .last)))))) (.eff 7 [0] (.eff 3 [] (.seg 4 (.seg 5 (.seg 6 (.eff 8 [] (.seg 9 .last)))))))) (.eff 7 [0] (.eff 2 [0] (.eff 3 [] (.seg 4 (.seg 5 (.seg 6 (.eff 8 [] (.seg 9 .last))))))))) (.eff 7 [0] (.eff 1 [0] (.eff 2 [0] (.eff 3 [] (.seg 4 (.seg 5 (.seg 6 (.eff 8 [] (.seg 9 .last)))))))))))), (6, [0,1,3,7,15,31,63,127,255,511,1023,2047,4095,8191,16383,32767,32767,131071,262143,524287,1048575,1048575,4194303,8388607,16777215,33554431,33554431,134217727,268435455,536870911,1073741823,2147483647,4294967295,8589934591,17179869183,17179869183,68719476735,137438953471,274877906943,549755813887], (.seg 0 (.seg 1 (.seg 2 (.seg 3 (.seg 4 (.seg 5 (.seg 6 (.seg 7 (.seg 8 (.seg 9 (.seg 10 (.seg 11 (.seg 12 (.seg 13 (.seg 14 (.seg 15 (.eff 16 [15] (.seg 17 (.seg 18 (.seg 19 (.seg 20 (.eff 21 [20] (.seg 22 (.seg 23 (.seg 24 (.seg 25 (.eff 26 [25] (.seg 27 (.seg 28 (.seg 29 (.seg 30 (.seg 31 (.seg 32 (.seg 33 (.seg 34 (.eff 35 [34] (.eff 36 [] (.seg 37 (.seg 38 (.seg 39 .last)))))))))))))))))))))))))))))))))))))))))] Tryz.func27 rfl (by kernel_rfl) rfl rfl rfl rfl (by kernel_rfl) ?_
  simp
  refine plainState_ok ?_
  have a1 := plain_ok
  have a2 := liveT_ok
  have a3 := liveU_ok
  have f1 := live_put
  have f2 := live_get
  have f3 := live_push
  have f4 := live_get2
  have f5 := live_get3
  have f6 := live_text
  generalize plainS = P at *
  generalize liveT = T at *
  generalize liveU = U at *
  simp
  refine refToC_ok 0 ?_
  simp
  refine numC_ok 7 ?_
  simp
  refine putC_ok P a1 ⟨5, 0⟩ ⟨4, 3⟩ ⟨2, 7⟩ ?_
  rw [f1]
  simp
  refine cutA (R := ?R2) ?a ?b
  case a =>
    intro r
    repeat' (first
      | (refine refToC_ok _ ?_; try simp)
      | (refine getC_ok T a2.ok ⟨5, 0⟩ ⟨4, 3⟩ ?_; rw [f2]; try simp; with_reducible exact r)
      | with_reducible refine And.intro ?_ ?_)
  case b =>
  refine cutB (R0 := ?S0) (R1 := ?S1) (R2 := ?S2) (R3 := ?S3) (R4 := ?S4) (R5 := ?S5) (R6 := ?S6) ?a ?b
  case a =>
    intro r0 r1 r2 r3 r4 r5 r6
    repeat' (first
      | (refine refToC_ok _ ?_; try simp)
      | (refine numC_ok _ ?_; try simp)
      | (refine callC_ok2 (hcA (.inr (.inl rfl))) T a2 false [⟨5, 1⟩, ⟨2, 9⟩] ?_; rw [f3]; try simp; first | with_reducible exact r0 | with_reducible exact r1 | with_reducible exact r2 | with_reducible exact r3 | with_reducible exact r4 | with_reducible exact r5 | with_reducible exact r6)
      | with_reducible refine And.intro ?_ ?_)
  case b =>
  refine ⟨?_, ?_, ?_, ?_, ?_, ?_, ?_⟩
  · refine cutC (R1 := ?R41x15) (R2 := ?R42x15) ?a ?b
    case a =>
      intro r1 r2
      repeat' (first
        | (refine refToC_ok _ ?_; try simp)
        | (refine numC_ok _ ?_; try simp)
        | (refine getC_ok U a3.ok ⟨5, 1⟩ ⟨2, 0⟩ ?_; rw [f4]; try simp; first | with_reducible exact r1 | with_reducible exact r2)
        | with_reducible refine And.intro ?_ ?_)
    case b =>
    refine ⟨?_, ?_⟩
    · refine cutA (R := ?R5x1) ?a ?b
      case a =>
        intro r
        repeat' (first
          | (refine refToC_ok _ ?_; try simp)
          | (refine numC_ok _ ?_; try simp)
          | (refine getC_ok T a2.ok ⟨5, 1⟩ ⟨2, 0⟩ ?_; rw [f5]; try simp; with_reducible exact r)
          | with_reducible refine And.intro ?_ ?_)
      case b =>
      repeat' (first
        | exact h
        | (refine refToC_ok _ ?_; try simp)
        | (refine numC_ok _ ?_; try simp)
        | (refine textC_ok T a2.ok ⟨5, 1⟩ ?_; rw [f6]; try simp))
    · first
        | with_reducible exact trivial
        | (refine cutA (R := ?R5x2) ?a ?b
           case a =>
             intro r
             repeat' (first
               | (refine refToC_ok _ ?_; try simp)
               | (refine numC_ok _ ?_; try simp)
               | (refine getC_ok T a2.ok ⟨5, 1⟩ ⟨2, 0⟩ ?_; rw [f5]; try simp; with_reducible exact r)
               | with_reducible refine And.intro ?_ ?_)
           case b =>
           repeat' (first
             | exact h
             | (refine refToC_ok _ ?_; try simp)
             | (refine numC_ok _ ?_; try simp)
             | (refine textC_ok T a2.ok ⟨5, 1⟩ ?_; rw [f6]; try simp)))
  · refine cutC (R1 := ?R41x16) (R2 := ?R42x16) ?a ?b
    case a =>
      intro r1 r2
      repeat' (first
        | (refine refToC_ok _ ?_; try simp)
        | (refine numC_ok _ ?_; try simp)
        | (refine getC_ok U a3.ok ⟨5, 1⟩ ⟨2, 0⟩ ?_; rw [f4]; try simp; first | with_reducible exact r1 | with_reducible exact r2)
        | with_reducible refine And.intro ?_ ?_)
    case b =>
    refine ⟨?_, ?_⟩
    · refine cutA (R := ?R5x3) ?a ?b
      case a =>
        intro r
        repeat' (first
          | (refine refToC_ok _ ?_; try simp)
          | (refine numC_ok _ ?_; try simp)
          | (refine getC_ok T a2.ok ⟨5, 1⟩ ⟨2, 0⟩ ?_; rw [f5]; try simp; with_reducible exact r)
          | with_reducible refine And.intro ?_ ?_)
      case b =>
      repeat' (first
        | exact h
        | (refine refToC_ok _ ?_; try simp)
        | (refine numC_ok _ ?_; try simp)
        | (refine textC_ok T a2.ok ⟨5, 1⟩ ?_; rw [f6]; try simp))
    · first
        | with_reducible exact trivial
        | (refine cutA (R := ?R5x4) ?a ?b
           case a =>
             intro r
             repeat' (first
               | (refine refToC_ok _ ?_; try simp)
               | (refine numC_ok _ ?_; try simp)
               | (refine getC_ok T a2.ok ⟨5, 1⟩ ⟨2, 0⟩ ?_; rw [f5]; try simp; with_reducible exact r)
               | with_reducible refine And.intro ?_ ?_)
           case b =>
           repeat' (first
             | exact h
             | (refine refToC_ok _ ?_; try simp)
             | (refine numC_ok _ ?_; try simp)
             | (refine textC_ok T a2.ok ⟨5, 1⟩ ?_; rw [f6]; try simp)))
  · refine cutC (R1 := ?R41x17) (R2 := ?R42x17) ?a ?b
    case a =>
      intro r1 r2
      repeat' (first
        | (refine refToC_ok _ ?_; try simp)
        | (refine numC_ok _ ?_; try simp)
        | (refine getC_ok U a3.ok ⟨5, 1⟩ ⟨2, 0⟩ ?_; rw [f4]; try simp; first | with_reducible exact r1 | with_reducible exact r2)
        | with_reducible refine And.intro ?_ ?_)
    case b =>
    refine ⟨?_, ?_⟩
    · refine cutA (R := ?R5x5) ?a ?b
      case a =>
        intro r
        repeat' (first
          | (refine refToC_ok _ ?_; try simp)
          | (refine numC_ok _ ?_; try simp)
          | (refine getC_ok T a2.ok ⟨5, 1⟩ ⟨2, 0⟩ ?_; rw [f5]; try simp; with_reducible exact r)
          | with_reducible refine And.intro ?_ ?_)
      case b =>
      repeat' (first
        | exact h
        | (refine refToC_ok _ ?_; try simp)
        | (refine numC_ok _ ?_; try simp)
        | (refine textC_ok T a2.ok ⟨5, 1⟩ ?_; rw [f6]; try simp))
    · first
        | with_reducible exact trivial
        | (refine cutA (R := ?R5x6) ?a ?b
           case a =>
             intro r
             repeat' (first
               | (refine refToC_ok _ ?_; try simp)
               | (refine numC_ok _ ?_; try simp)
               | (refine getC_ok T a2.ok ⟨5, 1⟩ ⟨2, 0⟩ ?_; rw [f5]; try simp; with_reducible exact r)
               | with_reducible refine And.intro ?_ ?_)
           case b =>
           repeat' (first
             | exact h
             | (refine refToC_ok _ ?_; try simp)
             | (refine numC_ok _ ?_; try simp)
             | (refine textC_ok T a2.ok ⟨5, 1⟩ ?_; rw [f6]; try simp)))
  · refine cutC (R1 := ?R41x18) (R2 := ?R42x18) ?a ?b
    case a =>
      intro r1 r2
      repeat' (first
        | (refine refToC_ok _ ?_; try simp)
        | (refine numC_ok _ ?_; try simp)
        | (refine getC_ok U a3.ok ⟨5, 1⟩ ⟨2, 0⟩ ?_; rw [f4]; try simp; first | with_reducible exact r1 | with_reducible exact r2)
        | with_reducible refine And.intro ?_ ?_)
    case b =>
    refine ⟨?_, ?_⟩
    · refine cutA (R := ?R5x7) ?a ?b
      case a =>
        intro r
        repeat' (first
          | (refine refToC_ok _ ?_; try simp)
          | (refine numC_ok _ ?_; try simp)
          | (refine getC_ok T a2.ok ⟨5, 1⟩ ⟨2, 0⟩ ?_; rw [f5]; try simp; with_reducible exact r)
          | with_reducible refine And.intro ?_ ?_)
      case b =>
      repeat' (first
        | exact h
        | (refine refToC_ok _ ?_; try simp)
        | (refine numC_ok _ ?_; try simp)
        | (refine textC_ok T a2.ok ⟨5, 1⟩ ?_; rw [f6]; try simp))
    · first
        | with_reducible exact trivial
        | (refine cutA (R := ?R5x8) ?a ?b
           case a =>
             intro r
             repeat' (first
               | (refine refToC_ok _ ?_; try simp)
               | (refine numC_ok _ ?_; try simp)
               | (refine getC_ok T a2.ok ⟨5, 1⟩ ⟨2, 0⟩ ?_; rw [f5]; try simp; with_reducible exact r)
               | with_reducible refine And.intro ?_ ?_)
           case b =>
           repeat' (first
             | exact h
             | (refine refToC_ok _ ?_; try simp)
             | (refine numC_ok _ ?_; try simp)
             | (refine textC_ok T a2.ok ⟨5, 1⟩ ?_; rw [f6]; try simp)))
  · refine cutC (R1 := ?R41x19) (R2 := ?R42x19) ?a ?b
    case a =>
      intro r1 r2
      repeat' (first
        | (refine refToC_ok _ ?_; try simp)
        | (refine numC_ok _ ?_; try simp)
        | (refine getC_ok U a3.ok ⟨5, 1⟩ ⟨2, 0⟩ ?_; rw [f4]; try simp; first | with_reducible exact r1 | with_reducible exact r2)
        | with_reducible refine And.intro ?_ ?_)
    case b =>
    refine ⟨?_, ?_⟩
    · refine cutA (R := ?R5x9) ?a ?b
      case a =>
        intro r
        repeat' (first
          | (refine refToC_ok _ ?_; try simp)
          | (refine numC_ok _ ?_; try simp)
          | (refine getC_ok T a2.ok ⟨5, 1⟩ ⟨2, 0⟩ ?_; rw [f5]; try simp; with_reducible exact r)
          | with_reducible refine And.intro ?_ ?_)
      case b =>
      repeat' (first
        | exact h
        | (refine refToC_ok _ ?_; try simp)
        | (refine numC_ok _ ?_; try simp)
        | (refine textC_ok T a2.ok ⟨5, 1⟩ ?_; rw [f6]; try simp))
    · first
        | with_reducible exact trivial
        | (refine cutA (R := ?R5x10) ?a ?b
           case a =>
             intro r
             repeat' (first
               | (refine refToC_ok _ ?_; try simp)
               | (refine numC_ok _ ?_; try simp)
               | (refine getC_ok T a2.ok ⟨5, 1⟩ ⟨2, 0⟩ ?_; rw [f5]; try simp; with_reducible exact r)
               | with_reducible refine And.intro ?_ ?_)
           case b =>
           repeat' (first
             | exact h
             | (refine refToC_ok _ ?_; try simp)
             | (refine numC_ok _ ?_; try simp)
             | (refine textC_ok T a2.ok ⟨5, 1⟩ ?_; rw [f6]; try simp)))
  · refine cutC (R1 := ?R41x20) (R2 := ?R42x20) ?a ?b
    case a =>
      intro r1 r2
      repeat' (first
        | (refine refToC_ok _ ?_; try simp)
        | (refine numC_ok _ ?_; try simp)
        | (refine getC_ok U a3.ok ⟨5, 1⟩ ⟨2, 0⟩ ?_; rw [f4]; try simp; first | with_reducible exact r1 | with_reducible exact r2)
        | with_reducible refine And.intro ?_ ?_)
    case b =>
    refine ⟨?_, ?_⟩
    · refine cutA (R := ?R5x11) ?a ?b
      case a =>
        intro r
        repeat' (first
          | (refine refToC_ok _ ?_; try simp)
          | (refine numC_ok _ ?_; try simp)
          | (refine getC_ok T a2.ok ⟨5, 1⟩ ⟨2, 0⟩ ?_; rw [f5]; try simp; with_reducible exact r)
          | with_reducible refine And.intro ?_ ?_)
      case b =>
      repeat' (first
        | exact h
        | (refine refToC_ok _ ?_; try simp)
        | (refine numC_ok _ ?_; try simp)
        | (refine textC_ok T a2.ok ⟨5, 1⟩ ?_; rw [f6]; try simp))
    · first
        | with_reducible exact trivial
        | (refine cutA (R := ?R5x12) ?a ?b
           case a =>
             intro r
             repeat' (first
               | (refine refToC_ok _ ?_; try simp)
               | (refine numC_ok _ ?_; try simp)
               | (refine getC_ok T a2.ok ⟨5, 1⟩ ⟨2, 0⟩ ?_; rw [f5]; try simp; with_reducible exact r)
               | with_reducible refine And.intro ?_ ?_)
           case b =>
           repeat' (first
             | exact h
             | (refine refToC_ok _ ?_; try simp)
             | (refine numC_ok _ ?_; try simp)
             | (refine textC_ok T a2.ok ⟨5, 1⟩ ?_; rw [f6]; try simp)))
  · refine cutC (R1 := ?R41x21) (R2 := ?R42x21) ?a ?b
    case a =>
      intro r1 r2
      repeat' (first
        | (refine refToC_ok _ ?_; try simp)
        | (refine numC_ok _ ?_; try simp)
        | (refine getC_ok U a3.ok ⟨5, 1⟩ ⟨2, 0⟩ ?_; rw [f4]; try simp; first | with_reducible exact r1 | with_reducible exact r2)
        | with_reducible refine And.intro ?_ ?_)
    case b =>
    refine ⟨?_, ?_⟩
    · refine cutA (R := ?R5x13) ?a ?b
      case a =>
        intro r
        repeat' (first
          | (refine refToC_ok _ ?_; try simp)
          | (refine numC_ok _ ?_; try simp)
          | (refine getC_ok T a2.ok ⟨5, 1⟩ ⟨2, 0⟩ ?_; rw [f5]; try simp; with_reducible exact r)
          | with_reducible refine And.intro ?_ ?_)
      case b =>
      repeat' (first
        | exact h
        | (refine refToC_ok _ ?_; try simp)
        | (refine numC_ok _ ?_; try simp)
        | (refine textC_ok T a2.ok ⟨5, 1⟩ ?_; rw [f6]; try simp))
    · first
        | with_reducible exact trivial
        | (refine cutA (R := ?R5x14) ?a ?b
           case a =>
             intro r
             repeat' (first
               | (refine refToC_ok _ ?_; try simp)
               | (refine numC_ok _ ?_; try simp)
               | (refine getC_ok T a2.ok ⟨5, 1⟩ ⟨2, 0⟩ ?_; rw [f5]; try simp; with_reducible exact r)
               | with_reducible refine And.intro ?_ ?_)
           case b =>
           repeat' (first
             | exact h
             | (refine refToC_ok _ ?_; try simp)
             | (refine numC_ok _ ?_; try simp)
             | (refine textC_ok T a2.ok ⟨5, 1⟩ ?_; rw [f6]; try simp)))
theorem valW_arg {H : Type} {enc : TypeId × Value → H} {W : World} {held : Bool} {r : Reach} {b0 : Nat} {v : Value} {d : DataW H} {ps : List MemPlace} (hval : Value.okWide Tryz.prog W r b0 31 v) (h : DataW.Trod enc Tryz.prog W 0 (fun _ => true) held 31 v d ps) (hz : ∀ y ∈ d.weights Tryz.prog 31, y ≤ reachBytes) :
    ∃ u : GVal, InI u.n ∧ ∀ (B : Nat → Prop) (ι : Nms), RV (Env.mk (fun b => b < W.heap.size) B) W ι (aD (eVal u)) v := by
  obtain ⟨cs, rfl, hsz⟩ := WideShapes.okWide_struct Tryz.underlying31 hval
  rw [show Tryz.prog.cellsOf 31 = 2 by kernel_rfl] at hsz
  obtain ⟨m, hm⟩ := h
  rw [show (Value.agg cs).cells = cs from rfl] at hm
  obtain ⟨s, s1, s2⟩ := opn_valW enc W held cs.toList ⟨m, _, hm, hz⟩
  refine ⟨s, s1, fun B ι => ?_⟩
  rw [RV]
  exact ⟨cs, rfl, rcs_of _ (by simp [hsz]) (s2 _ fun b hb => hb)⟩
theorem inS_of_q {s : GState} (h : cellsQ wordsT s = 0) : ∀ x ∈ s.shapes, InS x := by
  obtain ⟨h1, h2, -, h4, -⟩ := cellsQ_iff.1 h
  simp only [heapLarge, Bool.or_eq_false_iff, decide_eq_false_iff_not] at h1
  obtain ⟨hl, hok⟩ := faultP_ok h2
  intro x hx
  obtain ⟨j, hj, rfl⟩ := List.getElem_of_mem hx
  have h5 := List.all_eq_true.1 h4 _ hx
  simp at h5
  by_cases h0 : j = 0
  · subst h0
    have := hok.2.1
    rw [List.getD_eq_getElem?_getD, List.getElem?_eq_getElem hj, Option.getD_some] at this
    rw [this]
    exact ⟨by unfold InI; simp, by unfold InI; simp⟩
  · have hf := hok.2.2 j (by omega) hj
    have e1 : fstD s.shapes j = s.shapes[j].1 := by simp [fstD, List.getD_eq_getElem?_getD, hj]
    have e2 : sndD s.shapes j = s.shapes[j].2 := by simp [sndD, List.getD_eq_getElem?_getD, hj]
    have g1 := hf.1
    have g2 := hf.2.1
    have g3 := hf.2.2.1
    rw [e1] at g1 g2
    rw [e2] at g3
    exact ⟨by unfold InI; omega, by unfold InI; omega⟩
theorem okW_cells {s t : GState} (hw : OkW s) (hq : cellsQ wordsT t = 0) (ht : t.threads = s.threads) (hc : ∀ c ∈ t.cells, (∀ v ∈ c.vals, InI v.n) ∧ (c.frames = [] ∨ ∃ c' ∈ s.cells, c.frames = c'.frames)) : OkW t := by
  refine ⟨⟨fun x hx => ?_, inS_of_q hq, fun c h => ⟨(hc c h).1, fun f hf => ?_⟩⟩, fun c h => ?_, by rw [ht]; exact hw.threads⟩
  · have := txt_len hq hx
    unfold maxLen
    omega
  · rcases (hc c h).2 with e | ⟨c', h', e⟩
    · rw [e] at hf; cases hf
    · rw [e] at hf; exact (hw.ok.2.2 c' h').2 f hf
  · rcases (hc c h).2 with e | ⟨c', h', e⟩
    · rw [e]; exact ⟨by simp, fun f hf => by cases hf⟩
    · rw [e]; exact hw.cells c' h'
theorem okW_set {s : GState} (hw : OkW s) {n : Nat} (hn : n < s.cells.length) {c : GCell} {l : List Shp} (hq : cellsQ wordsT (setCS s n c l) = 0) (hv : ∀ v ∈ c.vals, InI v.n) (hf : c.frames = s.cells[n].frames) : OkW (setCS s n c l) := by
  refine okW_cells hw hq rfl fun d hd => ?_
  rcases List.mem_or_eq_of_mem_set hd with h | rfl
  · exact ⟨(hw.ok.2.2 d h).1, .inr ⟨d, h, rfl⟩⟩
  · exact ⟨hv, .inr ⟨_, List.getElem_mem hn, hf⟩⟩
theorem callC_bad {s : GState} {call : Int} {args : List GVal} (h : 0 ≤ (callC s call args).2.2) : callC s call args = (emptyS, nilG, (callC s call args).2.2) := by
  unfold callC at h ⊢
  by_cases c1 : askC s args = true
  · rw [if_pos c1] at h ⊢
    by_cases c2 : 0 ≤ (callW s call args).2.2
    · rw [if_pos c2]
    · rw [if_neg c2] at h; exact absurd h c2
  · rw [if_neg c1]
theorem okW_put {s : GState} (hw : OkW s) {of which v : GVal} (hv : InI v.n) (h : ¬ 0 ≤ (putC s of which v).2) : askC s [of, which, v] = true ∧ putC s of which v = ((putW s of which v).1, -1) ∧ (putW s of which v).2 = -1 ∧ OkW (putW s of which v).1 := by
  unfold putC at h ⊢
  by_cases c1 : askC s [of, which, v] = true
  case neg => rw [if_neg c1] at h; exact absurd (by simp) h
  rw [if_pos c1] at h ⊢
  by_cases c2 : 0 ≤ (putW s of which v).2
  · rw [if_pos c2] at h; exact absurd c2 h
  rw [if_neg c2]
  have ht : (putW s of which v).2 = -1 := (put_le s of which v).resolve_right c2
  obtain ⟨hq, hf⟩ := askC_iff.1 c1
  have hr := put_right hq (hf of (by simp)) (hf which (by simp)) (hf v (by simp)) ht
  refine ⟨c1, rfl, ht, ?_⟩
  obtain ⟨n, hn, rfl, hat, hc⟩ := put_cases hq (hf _ (by simp)) ht
  rcases hc with ⟨k, h1, h2, h3⟩ | ⟨h1, h2, h3, h4, h5, M, q, h6, h7⟩
  · rw [h3] at hr ⊢
    refine okW_set hw hn hr (fun u hu => ?_) rfl
    rcases List.mem_or_eq_of_mem_set hu with hu | rfl
    · exact (hw.ok.2.2 _ (List.getElem_mem hn)).1 u hu
    · exact hv
  · rw [h7] at hr ⊢
    refine okW_set hw hn hr (fun u hu => ?_) rfl
    rcases List.mem_append.1 hu with hu | hu
    · exact (hw.ok.2.2 _ (List.getElem_mem hn)).1 u hu
    · rw [List.mem_singleton.1 hu]; exact hv
end Go.Proofs.YtomhiphiogbbiaaGreatDoor
