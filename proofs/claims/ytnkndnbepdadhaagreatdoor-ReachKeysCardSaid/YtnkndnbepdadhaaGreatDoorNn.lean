/- Several texts in one. -/
import Derived.Test.YtnkndnbepdadhaaGreatDoorMf
import Derived.Test.YtnkndnbepdadhaaGreatDoorMo
import Derived.Test.YtnkndnbepdadhaaGreatDoorMz
set_option linter.unusedSimpArgs false
set_option linter.unusedVariables false
set_option maxRecDepth 100000
set_option maxHeartbeats 16000000
namespace Go.Proofs.YtnkndnbepdadhaaGreatDoor
open Go.RowKit Go
theorem ofL_mem {b : List Bool} {n : Int} : n ∈ ofL b ↔ ∃ m : Nat, n = m ∧ b.getD m false = true := by
  simp only [ofL, ofK, List.mem_map, List.mem_filter, List.mem_range]
  constructor
  · rintro ⟨m, ⟨h1, h2⟩, rfl⟩
    exact ⟨m, rfl, h2⟩
  · rintro ⟨m, rfl, h⟩
    refine ⟨m, ⟨?_, h⟩, rfl⟩
    rw [List.getD_eq_getElem?_getD] at h
    by_cases hl : m < b.length
    · exact hl
    · rw [List.getElem?_eq_none (by omega)] at h; cases h
theorem turn_put {s : GState} {k : Nat} {v : GVal} (hth : 0 < s.threads.length) (hk : s.threads[0].frames.length = k + 1) : turnS s 0 0 v = putReg s 0 k 0 v := by
  rw [putReg_eq hth (by omega)]
  unfold turnS GState.setT turnT turnF GThread.setF GFrame.withR
  have h1 : s.threads.getD 0 dThread = s.threads[0] := by simp [List.getD_eq_getElem?_getD, hth]
  have h2 : s.threads[0].frames.getD k dFrame = s.threads[0].frames[k] := by simp [List.getD_eq_getElem?_getD, hk]
  have h3 : s.threads[0].frames.length - 1 = k := by omega
  rw [h1, h3, h2]
theorem regs_pos {p : GProg} {s : GState} (hp : checkQ wordsT p = 0) {f : GFrame} (h : frameB p s f = true) : 0 < f.regs.length := by
  obtain ⟨-, -, h1, h2, -⟩ := frame_bnd hp h
  have hf := (check_zero hp).2.2.2 _ (fnAt_in h1 h2)
  have := (fn_zero hf).2.2.2
  simp only [frameB, Bool.and_eq_true, decide_eq_true_eq] at h
  have := h.1.1.1.1.1.2
  omega
theorem reachMore_ok (p : GProg) (hp : okP p) (s : GState) (hs : okSt s) (v : GVal) : DPure Tryz.prog 3 [aD (eProg p), aD (eState s), aD (eVal v)] fun d _ => d = dB true := by
  obtain ⟨vk, vn⟩ := v
  refine fn_ok [0,1,2,3,4,5,6,7,8,9,10,11,12,13,14,16,37,93,94,95,96,97,103] [(10, [0,1,3,7,0,31,63], (.seg 0 (.seg 1 (.seg 2 (.seg 3 (.seg 4 (.seg 5 (.eff 6 [] .last))))))))] Tryz.func3 rfl (by kernel_rfl) rfl rfl rfl rfl (by kernel_rfl) ?_
  simp
  refine ⟨_, rfl, Wk.refl _, ?_⟩; simp [vcC0]
  by_cases q1 : stateQ wordsT p s = 0
  case neg =>
    refine of_ok p hp s hs (fun _ => ?_) (fun e => absurd e q1)
    simp
    refine reachLives_ok ?_
    simp [q1]
    refine reachLives_ok ?_
    simp
  refine of_ok p hp s hs (fun e => absurd q1 e) (fun _ b hb => ?_)
  simp
  refine reachLives_ok ?_
  have ht0 : 0 < s.threads.length := by
    obtain ⟨-, -, -, h4⟩ := stateQ_iff.1 q1
    simp only [stateB, beginsB, Bool.and_eq_true, Bool.not_eq_true', decide_eq_false_iff_not] at h4
    exact List.length_pos_iff.2 h4.1.1.1.1.2
  have hz := sized_of q1
  have ht : s.threads[0]? = some s.threads[0] := List.getElem?_eq_getElem ht0
  have hmem : s.threads[0] ∈ s.threads := List.getElem_mem ht0
  have hge : s.threads.getD 0 dThread = s.threads[0] := by simp [List.getD_eq_getElem?_getD, ht0]
  have hgot : ∀ k, s.threads[0].frames.length = k + 1 → turnS s 0 0 ⟨vk, vn⟩ = putReg s 0 k 0 ⟨vk, vn⟩ := fun k hk => turn_put ht0 hk
  have hfr : ∀ f ∈ s.threads[0].frames, frameB p s f = true := fun f hf => thread_frames q1 hmem hf
  have h30 := (hz.thread _ hmem).1
  have gmore := fun (k : Nat) (hk : k < s.threads[0].frames.length) (hr : 0 < s.threads[0].frames[k].regs.length) (hw : s.threads[0].frames[k].regs[0].kind ≠ 5) (n : Nat) => @got_more s 0 k 0 ⟨vk, vn⟩ ht0 hk hr hw n
  have gput := fun (k : Nat) (hk : k < s.threads[0].frames.length) (hr : 0 < s.threads[0].frames[k].regs.length) => @got_put s 0 k 0 ⟨vk, vn⟩ ht0 hk hr
  generalize hX : s.threads[0] = x at *
  by_cases c4 : x.frames = []
  · simp [ht0, ht, hX, c4]
    refine reachLives_ok ?_
    simp
  obtain ⟨q, hq⟩ : ∃ q : Nat, x.frames.length = q + 1 := ⟨x.frames.length - 1, by have : x.frames.length ≠ 0 := fun e => c4 (List.length_eq_zero_iff.1 e); omega⟩
  have hql : q < x.frames.length := by omega
  have hfq : x.frames[q]? = some x.frames[q] := List.getElem?_eq_getElem hql
  have hrg := regs_pos (stateQ_iff.1 q1).1 (hfr _ (List.getElem_mem hql))
  have hrl := (frame_bnd (stateQ_iff.1 q1).1 (hfr _ (List.getElem_mem hql))).1
  have gm := gmore q hql hrg
  have gp := gput q hql hrg
  have htp := hgot q hq
  generalize hF : x.frames[q] = f at hfq hrg hrl gm gp
  have hr0 : f.regs[0]? = some f.regs[0] := List.getElem?_eq_getElem hrg
  have hwq : IntKind.i64.wrap (q : Int) = q := wrap_id (by omega) (by omega)
  have hq1 : (q : Int) < q + 1 := by omega
  obtain ⟨fs, xst, xon, xv⟩ := x
  simp only at *
  have hq0 : ¬ (q : Int) + 1 = 0 := by omega
  simp [ht0, ht, hX, hq, c4, hq0]
  intro _
  refine cloneTh_ok true (s.threads.map eThread) (by simp) (by simp) (by simp; have := hz.threads; omega) ?_
  simp [ht0, ht, hX, hq]
  refine cloneFr_ok true (fs.map eFrame) (by simp) (by simp) (by simp; omega) ?_
  simp [ht0, ht, hX, hq, hwq, hq1, hfq, hF, hrg, hr0]
  intro _
  refine ⟨.inl (by omega), ?_⟩
  refine ⟨⟨114, [(5, .one (.ptr 2 2 0 0)), (6, dB false), (7, dL true ((ofL b).map eInt)), (12, .one (.ptr 7 2 0 0)), (82, aD (eProg p)), (83, aD (eState (turnS s 0 0 ⟨vk, vn⟩)))], (Hp.none.set 2 (some ⟨.c 34, 2, [[.d (eI vk), .d (eI vn)]]⟩)).set 7 (some ⟨.c 34, 2, [[.d (eI f.regs[0].kind), .d (eI f.regs[0].n)]]⟩), 8⟩, rfl,
    Wk.deepT (fun i => i = 4 ∨ i = 5 ∨ i = 6) (tm1 := [(5, .one (.ptr 2 2 0 0)), (6, dB false), (7, dL true ((ofL b).map eInt)), (12, .one (.ptr 7 2 0 0)), (82, aD (eProg p)), (83, .agg [.d (.sl true (s.cells.map eCell)), .d (.sl true (s.shapes.map eShape)), .d (.sl true (s.texts.map eStr)), .own 4 5 s.threads.length, .d (.sl true (s.ends.map eEnd)), .d (.sl true (s.said.map eVal)), .d (eI s.asked), .d (eI s.steps)])]) rfl
      ⟨rfl, DRel.refl _, rfl, DRel.refl _, rfl, DRel.refl _, rfl, DRel.refl _, rfl, DRel.refl _, rfl, turn_rel s 0 0 q ⟨vk, vn⟩ fs f xst xon xv hge hq hfq rfl rfl rfl, trivial⟩ (fun i y hy => ?_), ?_⟩
  · by_cases e3 : i = 7
    · subst e3
      simp only [Hp.set_same, Option.some.injEq] at hy
      subst hy
      exact ⟨by simp, _, rfl, BOk.refl (by simp)⟩
    rw [Hp.set_ne _ _ e3] at hy
    by_cases e2 : i = 2
    · subst e2
      simp only [Hp.set_same, Option.some.injEq] at hy
      subst hy
      exact ⟨by simp, _, rfl, BOk.refl (by simp)⟩
    · simp [Hp.set, e2, Hp.none] at hy
  simp [vcC0]
  by_cases q2 : stateQ wordsT p (turnS s 0 0 ⟨vk, vn⟩) = 0
  case neg =>
    refine of_ok p hp (turnS s 0 0 ⟨vk, vn⟩) hs (fun _ => ?_) (fun e => absurd e q2)
    simp [q2]
  have hg2 := goodS_of q2
  rw [htp] at hg2
  refine of_ok p hp (turnS s 0 0 ⟨vk, vn⟩) hs (fun e => absurd q2 e) (fun _ b2 hb2 => ?_)
  rw [htp] at hb2
  by_cases w5 : f.regs[0].kind = 5
  · simp [w5]
  simp [w5]
  intro hlen
  refine loop_ok (ks := [0,1,2,3,4,5,6,7,8,9,10,11,12,13,14,16,37,93,94,95,96,97,103]) (pl := [(10, [0,1,3,7,0,31,63], (.seg 0 (.seg 1 (.seg 2 (.seg 3 (.seg 4 (.seg 5 (.eff 6 [] .last))))))))]) (n0 := 114) (fun x : {k : Nat // k ≤ (ofL b).length} => [(96, dI x.1)]) (fun x => (ofL b).length - x.1) ⟨0, by simp⟩ rfl (by kernel_rfl) (Wk.sub (by simp)) ?_
  rintro ⟨k, hk⟩
  by_cases h1 : k < (ofL b).length
  · have hm : (ofL b)[k] ∈ ofL b2 := by
      obtain ⟨m, e1, e2⟩ := ofL_mem.1 (List.getElem_mem h1)
      rw [e1]
      exact ofL_mem.2 ⟨m, rfl, (hb2.iff m).2 (gm w5 m ((hb.iff m).1 e2))⟩
    simp [h1, eInt]
    refine containsI_ok true (ofL b2) _ ?_
    simp [idxQ_in.2 hm]
    exact ⟨k + 1, by omega, by omega, Wk.sub (by simp [wrap_add (show k < 9223372036854775807 by omega)])⟩
  · obtain rfl : k = (ofL b).length := by omega
    simp
    by_cases v5 : vk = 5
    case neg => simp [v5]
    subst v5
    have hm : vn ∈ ofL b2 := by
      have g1 := gp rfl
      have g2 : 0 ≤ vn ∧ vn < ((putReg s 0 q 0 ⟨5, vn⟩).cells.length : Int) := hg2.root ⟨5, vn⟩ (vals_more (v := ⟨5, vn⟩) ht0 (k := q) (r := 0) (by rw [hX]; omega) (by simp only [hX, hF]; exact hrg)).1 rfl
      exact ofL_mem.2 ⟨vn.toNat, by omega, (hb2.iff _).2 g1⟩
    simp
    refine containsI_ok true (ofL b2) vn ?_
    simp [idxQ_in.2 hm]
end Go.Proofs.YtnkndnbepdadhaaGreatDoor
