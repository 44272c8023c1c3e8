/- Several texts in one. -/
import Derived.Test.YtnkndnbepdadhaaGreatDoorMg
import Derived.Test.YtnkndnbepdadhaaGreatDoorMx
import Derived.Test.YtnkndnbepdadhaaGreatDoorMy
set_option linter.unusedSimpArgs false
set_option linter.unusedVariables false
set_option maxRecDepth 100000
set_option maxHeartbeats 16000000
namespace Go.Proofs.YtnkndnbepdadhaaGreatDoor
open Go.RowKit Go
theorem keepP_sub {b : List Bool} : ∀ (l : List GVal) {v : GVal}, v ∈ keepP b l → v ∈ l
  | [], _, h => by cases h
  | [_], _, h => by cases h
  | k :: x :: l, v, h => by
    rw [keepP] at h
    split at h
    · rcases List.mem_cons.1 h with rfl | h
      · exact List.mem_cons_self
      rcases List.mem_cons.1 h with rfl | h
      · exact List.mem_cons_of_mem _ List.mem_cons_self
      · exact List.mem_cons_of_mem _ (List.mem_cons_of_mem _ (keepP_sub l h))
    · exact List.mem_cons_of_mem _ (List.mem_cons_of_mem _ (keepP_sub l h))
theorem okSt_col {s : GState} {b : List Bool} (h : okSt s) : okSt (colS b s) := by
  obtain ⟨h1, h2, h3⟩ := h
  refine ⟨h1, h2, fun c hc => ?_⟩
  obtain ⟨n, hn, rfl⟩ := mem_col hc
  obtain ⟨g1, g2⟩ := h3 _ (List.getElem_mem hn)
  unfold colC
  split
  · split
    · exact ⟨fun v hv => g1 v (keepP_sub _ hv), g2⟩
    · exact ⟨g1, g2⟩
  · exact ⟨(fun v hv => by cases hv), fun f hf => by cases hf⟩
theorem okSt_bare {s : GState} (h : okSt s) : okSt (bareS s) := by
  obtain ⟨h1, h2, h3⟩ := h
  refine ⟨h1, h2, fun c hc => ?_⟩
  obtain ⟨c0, h4, rfl⟩ := List.mem_map.1 hc
  obtain ⟨g1, g2⟩ := h3 _ h4
  unfold bareC
  split
  · exact ⟨(fun v hv => by cases hv), g2⟩
  · exact ⟨g1, g2⟩
theorem start_shwC (p : GProg) {H : Hp} {a b c d e g : Nat} (hb : H b = some ⟨.c 120, 2, [[.d (eI (-1)), .d (eI (-1))]]⟩)
    (hc : H c = some ⟨.c 9, 1, p.texts.map fun t => [.d (eS t)]⟩) (hd : H d = some ⟨.c 42, 5, [[.own e 8 1, .d (eI 0), .d (eI 0), .d (eI 0), .d (eI 0)]]⟩)
    (he : H e = some ⟨.c 47, 8, [[.d (eI 0), .d (eI 0), .d (eI (-1)), .d (eI (-1)), .d (eI 5), .d (eI 0), .own g 2 (fnAt p 0).regs.toNat, .d .emp]]⟩) (hg : H g = some ⟨.c 34, 2, List.replicate (fnAt p 0).regs.toNat [.d (eI 0), .d (eI 0)]⟩)
    (n1 : b ≠ 1 ∧ c ≠ 1 ∧ d ≠ 1 ∧ e ≠ 1 ∧ g ≠ 1) (n2 : b ≠ a ∧ c ≠ a ∧ d ≠ a ∧ e ≠ a ∧ g ≠ a) :
    CsRel H (fun i => i ≠ 1 ∧ i ≠ a) [.own a 4 1, .own b 2 1, .own c 1 p.texts.length, .own d 5 1, .d .emp, .d .emp, .d (eI 0), .d (eI 0)] (.own a 4 1 :: ((eState (startS p)).map .d).drop 1) := by
  obtain ⟨nb, nc, nd, ne, ng⟩ := n1
  obtain ⟨mb, mc, md, me, mg⟩ := n2
  have s0 : ∀ n, Shw H (fun i => i ≠ 1 ∧ i ≠ a) (.d (eI n)) (eI n) := fun n => .d rfl
  have hregs : Shw H (fun i => i ≠ 1 ∧ i ≠ a) (.own g 2 (fnAt p 0).regs.toNat) (.sl true ((firstFrame p).regs.map eVal)) := by
    refine Shw.row ⟨ng, mg⟩ hg rfl (by simp [firstFrame]) (by simp [firstFrame, nilV]) (by simp) (by simp)
  have hfr : Shw H (fun i => i ≠ 1 ∧ i ≠ a) (.own e 8 1) (.sl true ([firstFrame p].map eFrame)) := Shw.rows ⟨ne, me⟩ he rfl (by simp) ⟨⟨s0 _, s0 _, s0 _, s0 _, s0 _, s0 _, hregs, .emp, trivial⟩, trivial⟩
  have hth : Shw H (fun i => i ≠ 1 ∧ i ≠ a) (.own d 5 1) (.sl true ((startS p).threads.map eThread)) := Shw.rows ⟨nd, md⟩ hd rfl (by simp) ⟨⟨hfr, s0 _, s0 _, s0 _, s0 _, trivial⟩, trivial⟩
  have hsh : Shw H (fun i => i ≠ 1 ∧ i ≠ a) (.own b 2 1) (.sl true ((startS p).shapes.map eShape)) := Shw.rows ⟨nb, mb⟩ hb rfl (by simp [startS]) ⟨⟨s0 _, s0 _, trivial⟩, trivial⟩
  have htx : Shw H (fun i => i ≠ 1 ∧ i ≠ a) (.own c 1 p.texts.length) (.sl true ((startS p).texts.map eStr)) := by
    refine Shw.row ⟨nc, mc⟩ hc rfl (by simp [startS]) (by simp [startS]) (by simp) (by simp)
  exact ⟨.inl rfl, .inr ⟨_, rfl, hsh⟩, .inr ⟨_, rfl, htx⟩, .inr ⟨_, rfl, hth⟩, .inr ⟨_, rfl, .emp⟩, .inr ⟨_, rfl, .emp⟩, .inl rfl, .inl rfl, trivial⟩
def rowC (p : GProg) (n : Nat) : List C := .own n 4 1 :: ((eState (startS p)).map .d).drop 1
theorem start_finC (p : GProg) {K : D → List Blk → Prop} (h1 : K (.tup [.agg (rowC p 0), dI 0]) [⟨.c 53, 4, [[.d (eI 4), .d (eI 0), .d .emp, .d .emp]]⟩]) {tm : List (Nat × D)} {H : Hp} {nx a b c d e g : Nat} (hm : H 1 = some ⟨.c 32, 8, [[.own a 4 1, .own b 2 1, .own c 1 p.texts.length, .own d 5 1, .d .emp, .d .emp, .d (eI 0), .d (eI 0)]]⟩)
    (ha : H a = some ⟨.c 53, 4, [[.d (eI 4), .d (eI 0), .d .emp, .d .emp]]⟩) (hb : H b = some ⟨.c 120, 2, [[.d (eI (-1)), .d (eI (-1))]]⟩)
    (hc : H c = some ⟨.c 9, 1, p.texts.map fun t => [.d (eS t)]⟩) (hd : H d = some ⟨.c 42, 5, [[.own e 8 1, .d (eI 0), .d (eI 0), .d (eI 0), .d (eI 0)]]⟩)
    (he : H e = some ⟨.c 47, 8, [[.d (eI 0), .d (eI 0), .d (eI (-1)), .d (eI (-1)), .d (eI 5), .d (eI 0), .own g 2 (fnAt p 0).regs.toNat, .d .emp]]⟩) (hg : H g = some ⟨.c 34, 2, List.replicate (fnAt p 0).regs.toNat [.d (eI 0), .d (eI 0)]⟩)
    (na : a ≠ 1) (n1 : b ≠ 1 ∧ c ≠ 1 ∧ d ≠ 1 ∧ e ≠ 1 ∧ g ≠ 1) (n2 : b ≠ a ∧ c ≠ a ∧ d ≠ a ∧ e ≠ a ∧ g ≠ a) (ht : keepT tm [2, 3] = [(2, .one (.ptr 1 8 0 0)), (3, dI 0)]) : ∃ st', Wk ⟨32, tm, H, nx⟩ st' ∧ retP Tryz.prog [.cell 2 32, .tmp 3] K st' := by
  refine ⟨⟨32, [(2, .one (.ptr 1 8 0 0)), (3, dI 0)], (Hp.none.set 1 (some ⟨.c 32, 8, [rowC p a]⟩)).set a (some ⟨.c 53, 4, [[.d (eI 4), .d (eI 0), .d .emp, .d .emp]]⟩), nx⟩,
    Wk.deepT (fun i => i ≠ 1 ∧ i ≠ a) (tm1 := [(2, .one (.ptr 1 8 0 0)), (3, dI 0)]) ht ⟨rfl, DRel.refl _, rfl, DRel.refl _, trivial⟩ (fun i y hy => ?_), ?_⟩
  · by_cases e1 : i = a
    · subst e1
      rw [Hp.set_same, Option.some.injEq] at hy
      subst hy
      exact ⟨by simp, _, ha, BOk.refl (by simp)⟩
    rw [Hp.set_ne _ _ e1] at hy
    by_cases e2 : i = 1
    · subst e2
      rw [Hp.set_same, Option.some.injEq] at hy
      subst hy
      exact ⟨by simp, _, hm, BOk.one (start_shwC p hb hc hd he hg n1 n2) rfl⟩
    · rw [Hp.set_ne _ _ e2] at hy; cases hy
  have na' : ¬ 1 = a := fun e => na e.symm
  simp only [rowC] at h1 ⊢
  simp [na'] at h1 ⊢
  exact h1
theorem stStartC_ok (p : GProg) (hp : okP p) (c1 : checkQ wordsT p = 0) {K : D → List Blk → Prop} (h1 : K (.tup [.agg (rowC p 0), dI 0]) [⟨.c 53, 4, [[.d (eI 4), .d (eI 0), .d .emp, .d .emp]]⟩]) : DPure Tryz.prog 55 [aD (eProg p)] K := by
  refine fnw_ok [0,1,2,3,4,5,9] [(5, [0,1,0,4,0,16,48,0,128,384,896,2047,4095,8191], (.seg 0 (.seg 2 (.seg 4 (.seg 5 (.seg 7 (.fork 1 [2, 4, 5, 7] (.fork 3 [0, 4, 5, 7] (.fork 6 [0, 2, 7] (.eff 8 [0, 2, 4, 5] (.seg 9 (.eff 10 [0, 2, 4, 5] (.seg 11 (.eff 12 [] (.seg 13 .last)))))) (.eff 8 [0, 2, 4, 5] (.seg 9 (.fork 6 [0, 2, 7, 9] (.eff 10 [0, 2, 4, 5] (.seg 11 (.eff 12 [] (.seg 13 .last)))) (.eff 10 [0, 2, 4, 5] (.eff 6 [0, 2, 7, 9] (.seg 11 (.eff 12 [] (.seg 13 .last))))))))) (.fork 6 [0, 2, 7] (.fork 3 [0, 4, 5, 7] (.eff 8 [0, 2, 4, 5] (.seg 9 (.eff 10 [0, 2, 4, 5] (.seg 11 (.eff 12 [] (.seg 13 .last)))))) (.eff 8 [0, 2, 4, 5] (.seg 9 (.fork 3 [0, 4, 5, 7, 9] (.eff 10 [0, 2, 4, 5] (.seg 11 (.eff 12 [] (.seg 13 .last)))) (.eff 10 [0, 2, 4, 5] (.eff 3 [0, 4, 5, 7, 9] (.seg 11 (.eff 12 [] (.seg 13 .last))))))))) (.eff 8 [0, 2, 4, 5] (.seg 9 (.fork 3 [0, 4, 5, 7, 9] (.fork 6 [0, 2, 7, 9] (.eff 10 [0, 2, 4, 5] (.seg 11 (.eff 12 [] (.seg 13 .last)))) (.eff 10 [0, 2, 4, 5] (.eff 6 [0, 2, 7, 9] (.seg 11 (.eff 12 [] (.seg 13 .last)))))) (.fork 6 [0, 2, 7, 9] (.fork 3 [0, 4, 5, 7, 9] (.eff 10 [0, 2, 4, 5] (.seg 11 (.eff 12 [] (.seg 13 .last)))) (.eff 10 [0, 2, 4, 5] (.eff 3 [0, 4, 5, 7, 9] (.seg 11 (.eff 12 [] (.seg 13 .last)))))) (.eff 10 [0, 2, 4, 5] (.fork 3 [0, 4, 5, 7, 9] (.eff 6 [0, 2, 7, 9] (.seg 11 (.eff 12 [] (.seg 13 .last)))) (.eff 6 [0, 2, 7, 9] (.eff 3 [0, 4, 5, 7, 9] (.seg 11 (.eff 12 [] (.seg 13 .last))))))))))))) (.fork 3 [0, 4, 5, 7] (.fork 1 [2, 4, 5, 7] (.fork 6 [0, 2, 7] (.eff 8 [0, 2, 4, 5] (.seg 9 (.eff 10 [0, 2, 4, 5] (.seg 11 (.eff 12 [] (.seg 13 .last)))))) (.eff 8 [0, 2, 4, 5] (.seg 9 (.fork 6 [0, 2, 7, 9] (.eff 10 [0, 2, 4, 5] (.seg 11 (.eff 12 [] (.seg 13 .last)))) (.eff 10 [0, 2, 4, 5] (.eff 6 [0, 2, 7, 9] (.seg 11 (.eff 12 [] (.seg 13 .last))))))))) (.fork 6 [0, 2, 7] (.fork 1 [2, 4, 5, 7] (.eff 8 [0, 2, 4, 5] (.seg 9 (.eff 10 [0, 2, 4, 5] (.seg 11 (.eff 12 [] (.seg 13 .last)))))) (.eff 8 [0, 2, 4, 5] (.seg 9 (.fork 1 [2, 4, 5, 7, 9] (.eff 10 [0, 2, 4, 5] (.seg 11 (.eff 12 [] (.seg 13 .last)))) (.eff 10 [0, 2, 4, 5] (.eff 1 [2, 4, 5, 7, 9] (.seg 11 (.eff 12 [] (.seg 13 .last))))))))) (.eff 8 [0, 2, 4, 5] (.seg 9 (.fork 1 [2, 4, 5, 7, 9] (.fork 6 [0, 2, 7, 9] (.eff 10 [0, 2, 4, 5] (.seg 11 (.eff 12 [] (.seg 13 .last)))) (.eff 10 [0, 2, 4, 5] (.eff 6 [0, 2, 7, 9] (.seg 11 (.eff 12 [] (.seg 13 .last)))))) (.fork 6 [0, 2, 7, 9] (.fork 1 [2, 4, 5, 7, 9] (.eff 10 [0, 2, 4, 5] (.seg 11 (.eff 12 [] (.seg 13 .last)))) (.eff 10 [0, 2, 4, 5] (.eff 1 [2, 4, 5, 7, 9] (.seg 11 (.eff 12 [] (.seg 13 .last)))))) (.eff 10 [0, 2, 4, 5] (.fork 1 [2, 4, 5, 7, 9] (.eff 6 [0, 2, 7, 9] (.seg 11 (.eff 12 [] (.seg 13 .last)))) (.eff 6 [0, 2, 7, 9] (.eff 1 [2, 4, 5, 7, 9] (.seg 11 (.eff 12 [] (.seg 13 .last))))))))))))) (.fork 6 [0, 2, 7] (.fork 1 [2, 4, 5, 7] (.fork 3 [0, 4, 5, 7] (.eff 8 [0, 2, 4, 5] (.seg 9 (.eff 10 [0, 2, 4, 5] (.seg 11 (.eff 12 [] (.seg 13 .last)))))) (.eff 8 [0, 2, 4, 5] (.seg 9 (.fork 3 [0, 4, 5, 7, 9] (.eff 10 [0, 2, 4, 5] (.seg 11 (.eff 12 [] (.seg 13 .last)))) (.eff 10 [0, 2, 4, 5] (.eff 3 [0, 4, 5, 7, 9] (.seg 11 (.eff 12 [] (.seg 13 .last))))))))) (.fork 3 [0, 4, 5, 7] (.fork 1 [2, 4, 5, 7] (.eff 8 [0, 2, 4, 5] (.seg 9 (.eff 10 [0, 2, 4, 5] (.seg 11 (.eff 12 [] (.seg 13 .last)))))) (.eff 8 [0, 2, 4, 5] (.seg 9 (.fork 1 [2, 4, 5, 7, 9] (.eff 10 [0, 2, 4, 5] (.seg 11 (.eff 12 [] (.seg 13 .last)))) (.eff 10 [0, 2, 4, 5] (.eff 1 [2, 4, 5, 7, 9] (.seg 11 (.eff 12 [] (.seg 13 .last))))))))) (.eff 8 [0, 2, 4, 5] (.seg 9 (.fork 1 [2, 4, 5, 7, 9] (.fork 3 [0, 4, 5, 7, 9] (.eff 10 [0, 2, 4, 5] (.seg 11 (.eff 12 [] (.seg 13 .last)))) (.eff 10 [0, 2, 4, 5] (.eff 3 [0, 4, 5, 7, 9] (.seg 11 (.eff 12 [] (.seg 13 .last)))))) (.fork 3 [0, 4, 5, 7, 9] (.fork 1 [2, 4, 5, 7, 9] (.eff 10 [0, 2, 4, 5] (.seg 11 (.eff 12 [] (.seg 13 .last)))) (.eff 10 [0, 2, 4, 5] (.eff 1 [2, 4, 5, 7, 9] (.seg 11 (.eff 12 [] (.seg 13 .last)))))) (.eff 10 [0, 2, 4, 5] (.fork 1 [2, 4, 5, 7, 9] (.eff 3 [0, 4, 5, 7, 9] (.seg 11 (.eff 12 [] (.seg 13 .last)))) (.eff 3 [0, 4, 5, 7, 9] (.eff 1 [2, 4, 5, 7, 9] (.seg 11 (.eff 12 [] (.seg 13 .last))))))))))))) (.eff 8 [0, 2, 4, 5] (.seg 9 (.fork 1 [2, 4, 5, 7, 9] (.fork 3 [0, 4, 5, 7, 9] (.fork 6 [0, 2, 7, 9] (.eff 10 [0, 2, 4, 5] (.seg 11 (.eff 12 [] (.seg 13 .last)))) (.eff 10 [0, 2, 4, 5] (.eff 6 [0, 2, 7, 9] (.seg 11 (.eff 12 [] (.seg 13 .last)))))) (.fork 6 [0, 2, 7, 9] (.fork 3 [0, 4, 5, 7, 9] (.eff 10 [0, 2, 4, 5] (.seg 11 (.eff 12 [] (.seg 13 .last)))) (.eff 10 [0, 2, 4, 5] (.eff 3 [0, 4, 5, 7, 9] (.seg 11 (.eff 12 [] (.seg 13 .last)))))) (.eff 10 [0, 2, 4, 5] (.fork 3 [0, 4, 5, 7, 9] (.eff 6 [0, 2, 7, 9] (.seg 11 (.eff 12 [] (.seg 13 .last)))) (.eff 6 [0, 2, 7, 9] (.eff 3 [0, 4, 5, 7, 9] (.seg 11 (.eff 12 [] (.seg 13 .last))))))))) (.fork 3 [0, 4, 5, 7, 9] (.fork 1 [2, 4, 5, 7, 9] (.fork 6 [0, 2, 7, 9] (.eff 10 [0, 2, 4, 5] (.seg 11 (.eff 12 [] (.seg 13 .last)))) (.eff 10 [0, 2, 4, 5] (.eff 6 [0, 2, 7, 9] (.seg 11 (.eff 12 [] (.seg 13 .last)))))) (.fork 6 [0, 2, 7, 9] (.fork 1 [2, 4, 5, 7, 9] (.eff 10 [0, 2, 4, 5] (.seg 11 (.eff 12 [] (.seg 13 .last)))) (.eff 10 [0, 2, 4, 5] (.eff 1 [2, 4, 5, 7, 9] (.seg 11 (.eff 12 [] (.seg 13 .last)))))) (.eff 10 [0, 2, 4, 5] (.fork 1 [2, 4, 5, 7, 9] (.eff 6 [0, 2, 7, 9] (.seg 11 (.eff 12 [] (.seg 13 .last)))) (.eff 6 [0, 2, 7, 9] (.eff 1 [2, 4, 5, 7, 9] (.seg 11 (.eff 12 [] (.seg 13 .last))))))))) (.fork 6 [0, 2, 7, 9] (.fork 1 [2, 4, 5, 7, 9] (.fork 3 [0, 4, 5, 7, 9] (.eff 10 [0, 2, 4, 5] (.seg 11 (.eff 12 [] (.seg 13 .last)))) (.eff 10 [0, 2, 4, 5] (.eff 3 [0, 4, 5, 7, 9] (.seg 11 (.eff 12 [] (.seg 13 .last)))))) (.fork 3 [0, 4, 5, 7, 9] (.fork 1 [2, 4, 5, 7, 9] (.eff 10 [0, 2, 4, 5] (.seg 11 (.eff 12 [] (.seg 13 .last)))) (.eff 10 [0, 2, 4, 5] (.eff 1 [2, 4, 5, 7, 9] (.seg 11 (.eff 12 [] (.seg 13 .last)))))) (.eff 10 [0, 2, 4, 5] (.fork 1 [2, 4, 5, 7, 9] (.eff 3 [0, 4, 5, 7, 9] (.seg 11 (.eff 12 [] (.seg 13 .last)))) (.eff 3 [0, 4, 5, 7, 9] (.eff 1 [2, 4, 5, 7, 9] (.seg 11 (.eff 12 [] (.seg 13 .last))))))))) (.eff 10 [0, 2, 4, 5] (.fork 1 [2, 4, 5, 7, 9] (.fork 3 [0, 4, 5, 7, 9] (.eff 6 [0, 2, 7, 9] (.seg 11 (.eff 12 [] (.seg 13 .last)))) (.eff 6 [0, 2, 7, 9] (.eff 3 [0, 4, 5, 7, 9] (.seg 11 (.eff 12 [] (.seg 13 .last)))))) (.fork 3 [0, 4, 5, 7, 9] (.fork 1 [2, 4, 5, 7, 9] (.eff 6 [0, 2, 7, 9] (.seg 11 (.eff 12 [] (.seg 13 .last)))) (.eff 6 [0, 2, 7, 9] (.eff 1 [2, 4, 5, 7, 9] (.seg 11 (.eff 12 [] (.seg 13 .last)))))) (.eff 6 [0, 2, 7, 9] (.fork 1 [2, 4, 5, 7, 9] (.eff 3 [0, 4, 5, 7, 9] (.seg 11 (.eff 12 [] (.seg 13 .last)))) (.eff 3 [0, 4, 5, 7, 9] (.eff 1 [2, 4, 5, 7, 9] (.seg 11 (.eff 12 [] (.seg 13 .last))))))))))))))))))))))))] Tryz.func55 rfl (by kernel_rfl) rfl rfl rfl rfl (by kernel_rfl) ?_
  simp
  refine ⟨_, rfl, Wk.refl _, ?_⟩
  simp [vcC0]
  refine check_ok p hp ?_
  obtain ⟨f1, f2, f3, f4⟩ := start_fns c1
  have hfa : p.fns[0] = fnAt p 0 := by simp [fnAt, List.getD_eq_getElem?_getD, List.getElem?_eq_getElem f1]
  simp [c1, f1, hfa]
  have fr := fn_zero f4
  have fin := @start_finC p K h1
  have hreg : (fnAt p 0).regs ≤ 60 := by
    have := ((large_iff.1 (check_zero c1).1).2.2.2.2 _ (List.getElem_mem f1)).2
    rw [hfa] at this; exact this
  have htl := (large_iff.1 (check_zero c1).1).2.2.1
  refine ⟨by omega, by omega, ?_⟩
  repeat' (first | (refine cloneS_ok true (p.texts.map eStr) (by simp) (by simp) (by simp; omega) ?_; simp) | (with_reducible refine And.intro ?_ ?_))
  all_goals (exact fin rfl rfl rfl rfl rfl rfl rfl (by decide) (by decide) (by decide) rfl)
theorem more_gen {p : GProg} {s : GState} {cs : List GCell} (h : stateQ wordsT p s = 0) (hl : s.cells.length + cs.length ≤ 300) (hm : ∀ c ∈ cs, manyB c = false) (hc : ∀ c ∈ cs, cellB (withMore s cs []) c = true) (hh : ∀ c ∈ cs, c.kind ≠ 4 ∧ c.kind ≠ 5) : stateQ wordsT p (withMore s cs []) = 0 := by
  rw [stateQ_iff] at h ⊢
  obtain ⟨a1, a2, a3, a4⟩ := h
  refine ⟨a1, ?_, a3, ?_⟩
  · rw [cellsQ_iff] at a2 ⊢
    obtain ⟨c1, c2, c3, c4, c5, c6, c7⟩ := a2
    refine ⟨?_, c2, by simpa [withMore] using c3, ?_, ?_, ?_, ?_⟩
    · simp only [heapLarge, Bool.or_eq_false_iff, decide_eq_false_iff_not] at c1 ⊢
      obtain ⟨⟨⟨⟨⟨b1, b2⟩, b3⟩, b4⟩, b5⟩, b6⟩ := c1
      refine ⟨⟨⟨⟨⟨by simp [withMore]; omega, by simp [withMore]; omega⟩, b3⟩, b4⟩, by simpa [withMore] using b5⟩, ?_⟩
      simp only [withMore, List.any_append, b6, Bool.false_or]
      rw [List.any_eq_false]
      intro c hc'
      rw [hm c hc']; decide
    · exact all_mono c4 fun x _ hx => by simpa [withMore] using hx
    · simp only [withMore, List.all_append, Bool.and_eq_true]
      exact ⟨all_mono c5 fun c _ hc => cell_more hc, List.all_eq_true.2 hc⟩
    · exact all_mono c6 fun v _ hv => by
        simp only [saidB, Bool.and_eq_true] at hv ⊢
        exact ⟨hv.1, fits_more hv.2⟩
    · exact all_mono c7 fun e _ he => by
        simp only [endB, Bool.and_eq_true] at he ⊢
        refine ⟨?_, names_more he.2⟩
        have := he.1
        simp [btw, withMore] at this ⊢; omega
  · simp only [stateB, Bool.and_eq_true] at a4 ⊢
    obtain ⟨⟨⟨⟨b1, b2⟩, b3⟩, b4⟩, b5⟩ := a4
    refine ⟨⟨⟨⟨by simpa [withMore, beginsB] using b1, ?_⟩, all_mono b3 fun t _ => thread_more⟩, b4⟩, ?_⟩
    · simp only [withMore, List.all_append, Bool.and_eq_true]
      refine ⟨all_mono b2 fun c _ hc => heap_more hc, List.all_eq_true.2 fun c hc => ?_⟩
      obtain ⟨k4, k5⟩ := hh c hc
      unfold heapB
      rw [if_neg k4, if_neg k5]
    · unfold goesB at b5 ⊢
      rw [List.all_eq_true] at b5 ⊢
      intro k hk
      by_cases hks : k < s.cells.length
      · have := b5 k (List.mem_range.2 hks)
        rw [cellAt_more (by omega) (by omega)]
        exact this
      · have hk' : k < s.cells.length + cs.length := by have := List.mem_range.1 hk; simpa [withMore] using this
        have hc0 : cellAt (withMore s cs []) (k : Int) = cs[k - s.cells.length]'(by omega) := by
          unfold cellAt withMore
          rw [Int.toNat_natCast, List.getD_eq_getElem?_getD, List.getElem?_append_right (by omega), List.getElem?_eq_getElem (by omega)]
          rfl
        rw [hc0]
        have := (hh _ (List.getElem_mem (show k - s.cells.length < cs.length by omega))).2
        simp [this]
def twoC : List GCell := [⟨2, 0, [⟨5, 2⟩], []⟩, ⟨2, 0, [], []⟩]
def twoS : GState := withMore (startS livP) twoC []
theorem two_cells : twoS.cells = [⟨4, 0, [], []⟩, ⟨2, 0, [⟨5, 2⟩], []⟩, ⟨2, 0, [], []⟩] := rfl
theorem two_state : stateQ wordsT livP twoS = 0 := by
  refine more_gen liv_state (by simp [startS, twoC]) (fun c hc => ?_) (fun c hc => ?_) (fun c hc => ?_)
  · simp [twoC] at hc; rcases hc with rfl | rfl <;> rfl
  · simp [twoC] at hc
    rcases hc with rfl | rfl
    · have h2 : fitsB twoS ⟨5, 2⟩ = true := by
        have hc : cellAt twoS 2 = ⟨2, 0, [], []⟩ := rfl
        simp only [fitsB, hc]
        simp [rightB, two_cells]
      show cellB twoS ⟨2, 0, [⟨5, 2⟩], []⟩ = true
      simp [cellB, kindB, framesOf, h2]
    · simp [cellB, kindB, framesOf]
  · simp [twoC] at hc; rcases hc with rfl | rfl <;> simp
theorem two_ok : okSt twoS := by
  obtain ⟨h1, h2, h3⟩ := okSt_start (p := livP) (okS _ (by decide))
  refine ⟨by simpa [twoS, withMore] using h1, h2, fun c hc => ?_⟩
  rw [two_cells] at hc
  simp at hc
  rcases hc with rfl | rfl | rfl
  · exact ⟨fun v hv => by simp at hv, fun f hf => by simp at hf⟩
  · exact ⟨fun v hv => by simp at hv; subst hv; simp [InI], fun f hf => by simp at hf⟩
  · exact ⟨fun v hv => by simp at hv, fun f hf => by simp at hf⟩
theorem two_seen : SeenB twoS [true, false, false] := by
  have hv : valsS twoS = ⟨5, 0⟩ :: List.replicate (fnAt livP 0).regs.toNat nilV ++ [nilV] := by
    show valsS (withMore (startS livP) twoC []) = _
    simp [valsS, valsT, valsF, withMore, startS, firstFrame, nilV]
  have h0 : Got twoS 0 := Got.root (v := ⟨5, 0⟩) (by rw [hv]; simp) rfl
  have hG : ∀ n, Got twoS n → n = 0 := fun n hn => by
    induction hn with
    | root hv' hk =>
      rw [hv] at hv'
      simp at hv'
      rcases hv' with rfl | ⟨-, rfl⟩ | rfl
      · rfl
      · cases hk
      · cases hk
    | @kid m v hm h7 hv' hk ih =>
      subst ih
      have : cellAt twoS (0 : Nat) = ⟨4, 0, [], []⟩ := rfl
      rw [this] at hv'
      simp [valsC] at hv'
    | @key m k hm h7 hl2 hk5 hkey ih1 ih2 =>
      subst ih1
      have : cellAt twoS (0 : Nat) = ⟨4, 0, [], []⟩ := rfl
      rw [this] at h7
      cases h7
  refine ⟨rfl, fun n => ⟨fun h => ?_, fun h => ?_⟩⟩
  · match n, h with
    | 0, _ => exact h0
    | 1, h => cases h
    | 2, h => cases h
    | n + 3, h => simp at h
  · rw [hG n h]; rfl
theorem two_rel {H : Hp} (h4 : H 4 = some ⟨.c 34, 2, [[.d (eI 5), .d (eI 2)]]⟩) (h6 : H 6 = some ⟨.c 53, 4, [[.d (eI 4), .d (eI 0), .d .emp, .d .emp], [.d (eI 2), .d (eI 0), .own 4 2 1, .d .emp], [.d (eI 2), .d (eI 0), .d .emp, .d .emp]]⟩) :
    CsRel H (fun i => i = 4 ∨ i = 6) (.own 6 4 3 :: ((eState (startS livP)).map C.d).drop 1) ((eState twoS).map .d) := by
  have ht : twoS.texts = (startS livP).texts := by simp [twoS, withMore]
  simp only [eState, ht]
  refine ⟨.inr ⟨_, rfl, ?_⟩, .inl rfl, .inl rfl, .inl rfl, .inl rfl, .inl rfl, .inl rfl, .inl rfl, trivial⟩
  rw [two_cells]
  refine Shw.rows (.inr rfl) h6 rfl (by simp) ⟨⟨.d rfl, .d rfl, .emp, .emp, trivial⟩, ⟨.d rfl, .d rfl, ?_, .emp, trivial⟩, ⟨.d rfl, .d rfl, .emp, .emp, trivial⟩, trivial⟩
  exact Shw.rows (.inl rfl) h4 rfl (by simp) ⟨⟨.d rfl, .d rfl, trivial⟩, trivial⟩
theorem reachLives_ok {K : D → List Blk → Prop} (h : K (dB true) []) : DPure Tryz.prog 17 [] K := by
  refine fn_ok [0,1,2,3,4,5,6,7] [(3, [0,1,0,4,12,0,60,127,255,511], (.seg 0 (.seg 1 (.seg 5 (.eff 2 [0, 1, 5] (.eff 3 [0, 1, 5] (.seg 4 (.eff 6 [0, 1] (.eff 7 [] (.seg 8 (.eff 9 [] .last)))))))))))] Tryz.func17 rfl (by kernel_rfl) rfl rfl rfl rfl (by kernel_rfl) ?_
  simp
  refine ⟨_, rfl, Wk.fz0 (a := 0) (Hp.set_same _ _ _) (by simp), ?_⟩
  simp [vcC0, fzT, D.fz, C.fz, fzH]
  refine small2_ok [⟨28, 0, 0, 0, 0⟩] ?_
  simp
  refine ICall.ofPure (es := [aD (eProg (smallP [⟨28, 0, 0, 0, 0⟩]))]) (by simp) (stStartC_ok livP (okS _ (by decide)) livP_ok ?_)
  simp [rowC]
  refine refTo_ok 2 ?_
  simp
  refine ⟨?_, ?_⟩
  · rintro m b rfl e
    simp at e
    subst e
    exact ⟨rfl, rfl⟩
  refine ⟨⟨69, [(0, dB false), (1, .one (.ptr 1 3 0 0)), (2, .one (.ptr 3 8 0 0)), (3, dI 0), (26, aD (eProg livP)), (27, aD (eState twoS))], (Hp.none.set 1 (some ⟨.c 26, 3, [(eProg livP).map .d]⟩)).set 3 (some ⟨.c 32, 8, [(eState twoS).map .d]⟩), 7⟩, rfl,
    Wk.deepT (fun i => i = 4 ∨ i = 6) (tm1 := [(0, dB false), (1, .one (.ptr 1 3 0 0)), (2, .one (.ptr 3 8 0 0)), (3, dI 0), (26, aD (eProg livP)), (27, .agg (.own 6 4 3 :: ((eState (startS livP)).map C.d).drop 1))]) rfl ⟨rfl, DRel.refl _, rfl, DRel.refl _, rfl, DRel.refl _, rfl, DRel.refl _, rfl, DRel.refl _, rfl, two_rel rfl rfl, trivial⟩ (fun i y hy => ?_), ?_⟩
  · by_cases e3 : i = 3
    · subst e3
      simp only [Hp.set_same, Option.some.injEq] at hy
      subst hy
      exact ⟨by simp, _, rfl, BOk.one (two_rel rfl rfl) rfl⟩
    rw [Hp.set_ne _ _ e3] at hy
    by_cases e2 : i = 1
    · subst e2
      simp only [Hp.set_same, Option.some.injEq] at hy
      subst hy
      exact ⟨by simp, _, rfl, BOk.refl (by simp)⟩
    · simp [Hp.set, e2, Hp.none] at hy
  simp [vcC0]
  refine of_ok livP (okS _ (by decide)) twoS two_ok (fun e => absurd two_state e) (fun _ b hb => ?_)
  obtain rfl := hb.uniq two_seen
  have e1 : ofL [true, false, false] = [0] := rfl
  rw [e1]
  simp
  refine ICall.ofPure (es := [aD (eProg livP), aD (eState twoS)]) (by simp) ?_
  refine collect_ok livP (okS _ (by decide)) twoS two_ok (fun e => absurd two_state e) (fun _ b hb => ?_)
  obtain rfl := hb.uniq two_seen
  have ec : (colS [true, false, false] twoS).cells = [⟨4, 0, [], []⟩, ⟨0, 0, [], []⟩, ⟨0, 0, [], []⟩] := rfl
  generalize colS [true, false, false] twoS = S at *
  obtain ⟨T, hT⟩ : ∃ T, T = twoS := ⟨_, rfl⟩
  rw [← hT]
  clear hT
  simp [ec]
  refine fine_ok false [0, 0, 0] ?_
  simp
  refine equalI_ok true false [0] [0] ?_
  simp
  exact h
end Go.Proofs.YtnkndnbepdadhaaGreatDoor
