/- Several texts in one. -/
import Derived.Test.YtjbkinmdcaegcaaGreatDoorMr
import Derived.Test.YtjbkinmdcaegcaaGreatDoorMs
set_option linter.unusedSimpArgs false
set_option linter.unusedVariables false
set_option maxRecDepth 100000
set_option maxHeartbeats 16000000
namespace Go.Proofs.YtjbkinmdcaegcaaGreatDoor
open Go.RowKit Go
theorem throw_don {p : GProg} {s : GState} (h : stateQ wordsT p s = 0) {th : Nat} (hth : th < s.threads.length) : DonG s (dropG s.threads[th].frames s.threads[th].frames.length) := fun g hg => by
  have hst : ∀ k < s.threads[th].frames.length, stackB p s s.threads[th].frames k = true := fun k hk => thread_stack (state_thread h (List.getElem_mem hth)).1 hk
  exact (throw_drop (p := p) hst hg).2
theorem okSt_throw {p : GProg} {s : GState} (h : stateQ wordsT p s = 0) (hs : okSt s) {th : Nat} (hth : th < s.threads.length) (v : GVal) : okSt (throwS s th v) := by
  obtain ⟨h1, h2, h3⟩ := hs
  have hd : s.threads.getD th dThread = s.threads[th] := by simp [List.getD_eq_getElem?_getD, hth]
  refine ⟨h1, h2, fun c hc => ?_⟩
  rw [throwS] at hc
  obtain ⟨k, hk, rfl⟩ := done_mem hc
  obtain ⟨k1, k2⟩ := h3 _ (List.getElem_mem hk)
  exact ⟨by rw [doneC_vals]; exact k1, by rw [doneC_frames]; exact k2⟩
structure StyS where
  k : Nat
  L : List GThread
  n1 : Nat
  n2 : Nat
  nx : Nat
structure StyI (s : GState) (a b : Nat) (x : StyS) : Prop where
  hk : x.k ≤ s.threads.length
  hL : x.L.length ≤ x.k
  h1 : 6 ≤ x.n1
  h2 : 6 ≤ x.n2
  h12 : x.n1 ≠ x.n2
  l1 : x.n1 < x.nx
  l2 : x.n2 < x.nx
def styH (s n : GState) (a b : Nat) (x : StyS) : Hp := (((((Hp.none.set 1 (some ⟨.c 32, 8, [(eState s).map .d]⟩)).set 3 (some ⟨.c 32, 8, [(eState n).map .d]⟩)).set a (some ⟨.c 32, 8, [[.d .emp, .d (.sl true (s.shapes.map eShape)), .d (.sl true (s.texts.map eStr)), .own x.n1 5 x.L.length, .d (.sl true (s.ends.map eEnd)), .d (.sl true (s.said.map eVal)), .d (eI s.asked), .d (eI s.steps)]]⟩)).set b (some ⟨.c 32, 8, [[.d .emp, .d (.sl true (n.shapes.map eShape)), .d (.sl true (n.texts.map eStr)), .own x.n2 5 x.L.length, .d (.sl true (n.ends.map eEnd)), .d (.sl true (n.said.map eVal)), .d (eI n.asked), .d (eI n.steps)]]⟩)).set x.n1 (some ⟨.c 56, 5, x.L.map fun t => (eThread t).map .d⟩)).set x.n2 (some ⟨.c 56, 5, x.L.map fun t => (eThread t).map .d⟩)
theorem styH_wk {s n : GState} {a b k p1 p2 m : Nat} {L : List GThread} {X : Hp} (h1 : X 1 = some ⟨.c 32, 8, [(eState s).map .d]⟩) (h3 : X 3 = some ⟨.c 32, 8, [(eState n).map .d]⟩)
    (hA : X a = some ⟨.c 32, 8, [[.d .emp, .d (.sl true (s.shapes.map eShape)), .d (.sl true (s.texts.map eStr)), .own p1 5 L.length, .d (.sl true (s.ends.map eEnd)), .d (.sl true (s.said.map eVal)), .d (eI s.asked), .d (eI s.steps)]]⟩)
    (hB : X b = some ⟨.c 32, 8, [[.d .emp, .d (.sl true (n.shapes.map eShape)), .d (.sl true (n.texts.map eStr)), .own p2 5 L.length, .d (.sl true (n.ends.map eEnd)), .d (.sl true (n.said.map eVal)), .d (eI n.asked), .d (eI n.steps)]]⟩)
    (hP : X p1 = some ⟨.c 56, 5, L.map fun t => (eThread t).map .d⟩) (hQ : X p2 = some ⟨.c 56, 5, L.map fun t => (eThread t).map .d⟩) : ∀ i y, styH s n a b ⟨k, L, p1, p2, m⟩ i = some y → X i = some y := fun i y hy => by
  unfold styH at hy
  simp only at hy
  by_cases i1 : i = p2
  · subst i1; rw [Hp.set_same] at hy; rw [hQ]; exact hy
  rw [Hp.set_ne _ _ i1] at hy
  by_cases i2 : i = p1
  · subst i2; rw [Hp.set_same] at hy; rw [hP]; exact hy
  rw [Hp.set_ne _ _ i2] at hy
  by_cases i3 : i = b
  · subst i3; rw [Hp.set_same] at hy; rw [hB]; exact hy
  rw [Hp.set_ne _ _ i3] at hy
  by_cases i4 : i = a
  · subst i4; rw [Hp.set_same] at hy; rw [hA]; exact hy
  rw [Hp.set_ne _ _ i4] at hy
  by_cases i5 : i = 3
  · subst i5; rw [Hp.set_same] at hy; rw [h3]; exact hy
  rw [Hp.set_ne _ _ i5] at hy
  by_cases i6 : i = 1
  · subst i6; rw [Hp.set_same] at hy; rw [h1]; exact hy
  rw [Hp.set_ne _ _ i6] at hy
  cases hy
theorem unwindStays_ok (p : GProg) (hp : okP p) (s : GState) (hs : okSt s) (th : Int) (v : GVal) : DPure Tryz.prog 11 [aD (eProg p), aD (eState s), dI th, aD (eVal v)] fun d _ => d = dB true := by
  refine fn_ok [0,1,2,3,4,5,7,8,9,11,12,13,14,15,16,31,60,68,69,70,71,108,112,113,114,118] [(6, [0,0,0,0,13,31], (.seg 0 (.seg 1 (.fork 2 [0, 1] (.eff 3 [0, 1] (.eff 4 [1] (.eff 5 [] .last))) (.eff 3 [0, 1] (.eff 2 [0, 1] (.eff 4 [1] (.eff 5 [] .last)))))))), (12, [0,1,0,4,0,28,60,124,255,511,1023,2047,1023,5119,1023,29695,62463,127999,262143,524287,1048575,2097151,4194303,8388607,16777215,33554431,16777215,134217727,268435455,536870911,1073741823,2147483647,4294967295,8589934591], (.seg 0 (.seg 1 (.seg 2 (.seg 3 (.seg 4 (.seg 5 (.seg 6 (.seg 7 (.seg 8 (.seg 9 (.seg 10 (.seg 11 (.seg 12 (.seg 13 (.seg 14 (.seg 15 (.seg 16 (.seg 17 (.seg 18 (.seg 19 (.seg 20 (.seg 21 (.seg 22 (.seg 23 (.seg 24 (.seg 25 (.seg 26 (.seg 27 (.seg 28 (.seg 29 (.seg 30 (.seg 31 (.seg 32 (.seg 33 .last))))))))))))))))))))))))))))))))))), (19, [0,1,0,4,0,28,60,124,255,0,512,0,2048,0,14336,30720,63488,131071,511,524287,1048575,2097151], (.seg 0 (.seg 1 (.seg 2 (.seg 3 (.seg 4 (.seg 5 (.seg 6 (.seg 9 (.seg 11 (.seg 13 (.fork 7 [0, 1, 9, 11] (.fork 8 [9, 11] (.seg 18 (.fork 10 [11, 18] (.eff 12 [18] (.seg 14 (.eff 15 [18] (.eff 16 [18] (.eff 17 [18] (.eff 19 [] (.seg 20 (.eff 21 [] .last)))))))) (.eff 12 [9, 18] (.seg 14 (.fork 10 [14, 18] (.eff 15 [18] (.eff 16 [18] (.eff 17 [18] (.eff 19 [] (.seg 20 (.eff 21 [] .last)))))) (.eff 15 [9, 18] (.fork 10 [18] (.eff 16 [18] (.eff 17 [18] (.eff 19 [] (.seg 20 (.eff 21 [] .last))))) (.eff 16 [9, 18] (.eff 10 [18] (.eff 17 [18] (.eff 19 [] (.seg 20 (.eff 21 [] .last))))))))))))) (.fork 10 [0, 1, 11] (.fork 8 [11] (.seg 18 (.eff 12 [18] (.seg 14 (.eff 15 [18] (.eff 16 [18] (.eff 17 [18] (.eff 19 [] (.seg 20 (.eff 21 [] .last))))))))) (.eff 12 [0, 1] (.seg 14 (.fork 8 [14] (.seg 18 (.eff 15 [18] (.eff 16 [18] (.eff 17 [18] (.eff 19 [] (.seg 20 (.eff 21 [] .last))))))) (.eff 15 [0, 1] (.fork 8 [] (.seg 18 (.eff 16 [18] (.eff 17 [18] (.eff 19 [] (.seg 20 (.eff 21 [] .last)))))) (.eff 16 [0, 1] (.eff 8 [] (.seg 18 (.eff 17 [18] (.eff 19 [] (.seg 20 (.eff 21 [] .last))))))))))))) (.eff 12 [0, 1, 9] (.seg 14 (.fork 8 [9, 14] (.seg 18 (.fork 10 [14, 18] (.eff 15 [18] (.eff 16 [18] (.eff 17 [18] (.eff 19 [] (.seg 20 (.eff 21 [] .last)))))) (.eff 15 [9, 18] (.fork 10 [18] (.eff 16 [18] (.eff 17 [18] (.eff 19 [] (.seg 20 (.eff 21 [] .last))))) (.eff 16 [9, 18] (.eff 10 [18] (.eff 17 [18] (.eff 19 [] (.seg 20 (.eff 21 [] .last)))))))))) (.fork 10 [0, 1, 14] (.fork 8 [14] (.seg 18 (.eff 15 [18] (.eff 16 [18] (.eff 17 [18] (.eff 19 [] (.seg 20 (.eff 21 [] .last))))))) (.eff 15 [0, 1] (.fork 8 [] (.seg 18 (.eff 16 [18] (.eff 17 [18] (.eff 19 [] (.seg 20 (.eff 21 [] .last)))))) (.eff 16 [0, 1] (.eff 8 [] (.seg 18 (.eff 17 [18] (.eff 19 [] (.seg 20 (.eff 21 [] .last)))))))))) (.eff 15 [0, 1, 9] (.fork 8 [9] (.seg 18 (.fork 10 [18] (.eff 16 [18] (.eff 17 [18] (.eff 19 [] (.seg 20 (.eff 21 [] .last))))) (.eff 16 [9, 18] (.eff 10 [18] (.eff 17 [18] (.eff 19 [] (.seg 20 (.eff 21 [] .last)))))))) (.fork 10 [0, 1] (.fork 8 [] (.seg 18 (.eff 16 [18] (.eff 17 [18] (.eff 19 [] (.seg 20 (.eff 21 [] .last)))))) (.eff 16 [0, 1] (.eff 8 [] (.seg 18 (.eff 17 [18] (.eff 19 [] (.seg 20 (.eff 21 [] .last)))))))) (.eff 16 [0, 1, 9] (.fork 8 [9] (.seg 18 (.eff 10 [18] (.eff 17 [18] (.eff 19 [] (.seg 20 (.eff 21 [] .last)))))) (.eff 10 [0, 1] (.eff 8 [] (.seg 18 (.eff 17 [18] (.eff 19 [] (.seg 20 (.eff 21 [] .last)))))))))))))))))) (.fork 10 [0, 1, 2, 3, 5, 6, 11] (.fork 7 [0, 1, 11] (.fork 8 [11] (.seg 18 (.eff 12 [18] (.seg 14 (.eff 15 [18] (.eff 16 [18] (.eff 17 [18] (.eff 19 [] (.seg 20 (.eff 21 [] .last))))))))) (.eff 12 [0, 1] (.seg 14 (.fork 8 [14] (.seg 18 (.eff 15 [18] (.eff 16 [18] (.eff 17 [18] (.eff 19 [] (.seg 20 (.eff 21 [] .last))))))) (.eff 15 [0, 1] (.fork 8 [] (.seg 18 (.eff 16 [18] (.eff 17 [18] (.eff 19 [] (.seg 20 (.eff 21 [] .last)))))) (.eff 16 [0, 1] (.eff 8 [] (.seg 18 (.eff 17 [18] (.eff 19 [] (.seg 20 (.eff 21 [] .last))))))))))))) (.eff 12 [0, 1, 2, 3, 5, 6] (.seg 14 (.fork 7 [0, 1, 14] (.fork 8 [14] (.seg 18 (.eff 15 [18] (.eff 16 [18] (.eff 17 [18] (.eff 19 [] (.seg 20 (.eff 21 [] .last))))))) (.eff 15 [0, 1] (.fork 8 [] (.seg 18 (.eff 16 [18] (.eff 17 [18] (.eff 19 [] (.seg 20 (.eff 21 [] .last)))))) (.eff 16 [0, 1] (.eff 8 [] (.seg 18 (.eff 17 [18] (.eff 19 [] (.seg 20 (.eff 21 [] .last)))))))))) (.eff 15 [0, 1, 2, 3, 5, 6] (.fork 7 [0, 1] (.fork 8 [] (.seg 18 (.eff 16 [18] (.eff 17 [18] (.eff 19 [] (.seg 20 (.eff 21 [] .last)))))) (.eff 16 [0, 1] (.eff 8 [] (.seg 18 (.eff 17 [18] (.eff 19 [] (.seg 20 (.eff 21 [] .last)))))))) (.eff 16 [0, 1, 2, 3, 5, 6] (.eff 7 [0, 1] (.eff 8 [] (.seg 18 (.eff 17 [18] (.eff 19 [] (.seg 20 (.eff 21 [] .last)))))))))))))) (.eff 12 [0, 1, 2, 3, 5, 6, 9] (.seg 14 (.fork 7 [0, 1, 9, 14] (.fork 8 [9, 14] (.seg 18 (.fork 10 [14, 18] (.eff 15 [18] (.eff 16 [18] (.eff 17 [18] (.eff 19 [] (.seg 20 (.eff 21 [] .last)))))) (.eff 15 [9, 18] (.fork 10 [18] (.eff 16 [18] (.eff 17 [18] (.eff 19 [] (.seg 20 (.eff 21 [] .last))))) (.eff 16 [9, 18] (.eff 10 [18] (.eff 17 [18] (.eff 19 [] (.seg 20 (.eff 21 [] .last)))))))))) (.fork 10 [0, 1, 14] (.fork 8 [14] (.seg 18 (.eff 15 [18] (.eff 16 [18] (.eff 17 [18] (.eff 19 [] (.seg 20 (.eff 21 [] .last))))))) (.eff 15 [0, 1] (.fork 8 [] (.seg 18 (.eff 16 [18] (.eff 17 [18] (.eff 19 [] (.seg 20 (.eff 21 [] .last)))))) (.eff 16 [0, 1] (.eff 8 [] (.seg 18 (.eff 17 [18] (.eff 19 [] (.seg 20 (.eff 21 [] .last)))))))))) (.eff 15 [0, 1, 9] (.fork 8 [9] (.seg 18 (.fork 10 [18] (.eff 16 [18] (.eff 17 [18] (.eff 19 [] (.seg 20 (.eff 21 [] .last))))) (.eff 16 [9, 18] (.eff 10 [18] (.eff 17 [18] (.eff 19 [] (.seg 20 (.eff 21 [] .last)))))))) (.fork 10 [0, 1] (.fork 8 [] (.seg 18 (.eff 16 [18] (.eff 17 [18] (.eff 19 [] (.seg 20 (.eff 21 [] .last)))))) (.eff 16 [0, 1] (.eff 8 [] (.seg 18 (.eff 17 [18] (.eff 19 [] (.seg 20 (.eff 21 [] .last)))))))) (.eff 16 [0, 1, 9] (.fork 8 [9] (.seg 18 (.eff 10 [18] (.eff 17 [18] (.eff 19 [] (.seg 20 (.eff 21 [] .last)))))) (.eff 10 [0, 1] (.eff 8 [] (.seg 18 (.eff 17 [18] (.eff 19 [] (.seg 20 (.eff 21 [] .last)))))))))))))) (.fork 10 [0, 1, 2, 3, 5, 6, 14] (.fork 7 [0, 1, 14] (.fork 8 [14] (.seg 18 (.eff 15 [18] (.eff 16 [18] (.eff 17 [18] (.eff 19 [] (.seg 20 (.eff 21 [] .last))))))) (.eff 15 [0, 1] (.fork 8 [] (.seg 18 (.eff 16 [18] (.eff 17 [18] (.eff 19 [] (.seg 20 (.eff 21 [] .last)))))) (.eff 16 [0, 1] (.eff 8 [] (.seg 18 (.eff 17 [18] (.eff 19 [] (.seg 20 (.eff 21 [] .last)))))))))) (.eff 15 [0, 1, 2, 3, 5, 6] (.fork 7 [0, 1] (.fork 8 [] (.seg 18 (.eff 16 [18] (.eff 17 [18] (.eff 19 [] (.seg 20 (.eff 21 [] .last)))))) (.eff 16 [0, 1] (.eff 8 [] (.seg 18 (.eff 17 [18] (.eff 19 [] (.seg 20 (.eff 21 [] .last)))))))) (.eff 16 [0, 1, 2, 3, 5, 6] (.eff 7 [0, 1] (.eff 8 [] (.seg 18 (.eff 17 [18] (.eff 19 [] (.seg 20 (.eff 21 [] .last))))))))))) (.eff 15 [0, 1, 2, 3, 5, 6, 9] (.fork 7 [0, 1, 9] (.fork 8 [9] (.seg 18 (.fork 10 [18] (.eff 16 [18] (.eff 17 [18] (.eff 19 [] (.seg 20 (.eff 21 [] .last))))) (.eff 16 [9, 18] (.eff 10 [18] (.eff 17 [18] (.eff 19 [] (.seg 20 (.eff 21 [] .last)))))))) (.fork 10 [0, 1] (.fork 8 [] (.seg 18 (.eff 16 [18] (.eff 17 [18] (.eff 19 [] (.seg 20 (.eff 21 [] .last)))))) (.eff 16 [0, 1] (.eff 8 [] (.seg 18 (.eff 17 [18] (.eff 19 [] (.seg 20 (.eff 21 [] .last)))))))) (.eff 16 [0, 1, 9] (.fork 8 [9] (.seg 18 (.eff 10 [18] (.eff 17 [18] (.eff 19 [] (.seg 20 (.eff 21 [] .last)))))) (.eff 10 [0, 1] (.eff 8 [] (.seg 18 (.eff 17 [18] (.eff 19 [] (.seg 20 (.eff 21 [] .last))))))))))) (.fork 10 [0, 1, 2, 3, 5, 6] (.fork 7 [0, 1] (.fork 8 [] (.seg 18 (.eff 16 [18] (.eff 17 [18] (.eff 19 [] (.seg 20 (.eff 21 [] .last)))))) (.eff 16 [0, 1] (.eff 8 [] (.seg 18 (.eff 17 [18] (.eff 19 [] (.seg 20 (.eff 21 [] .last)))))))) (.eff 16 [0, 1, 2, 3, 5, 6] (.eff 7 [0, 1] (.eff 8 [] (.seg 18 (.eff 17 [18] (.eff 19 [] (.seg 20 (.eff 21 [] .last))))))))) (.eff 16 [0, 1, 2, 3, 5, 6, 9] (.fork 7 [0, 1, 9] (.fork 8 [9] (.seg 18 (.eff 10 [18] (.eff 17 [18] (.eff 19 [] (.seg 20 (.eff 21 [] .last)))))) (.eff 10 [0, 1] (.eff 8 [] (.seg 18 (.eff 17 [18] (.eff 19 [] (.seg 20 (.eff 21 [] .last)))))))) (.eff 10 [0, 1, 2, 3, 5, 6] (.eff 7 [0, 1] (.eff 8 [] (.seg 18 (.eff 17 [18] (.eff 19 [] (.seg 20 (.eff 21 [] .last))))))))))))))))))))))))))))))] Tryz.func11 rfl (by kernel_rfl) rfl rfl rfl rfl (by kernel_rfl) ?_
  simp
  refine throw_ok p hp s hs th v ?_ (fun h0 => ?_) (fun h1 => ?_)
  · repeat' (first | exact HSol.zero | refine HSol.set ?_ (by simp))
  · simp
    refine unwindLives_ok ?_
    simp [h0]
    refine unwindLives_ok ?_
    simp [noS]
  · obtain ⟨q1, t, rfl, ht, c3, c4⟩ := throw_zero h1
    have hd : s.threads.getD t dThread = s.threads[t] := by simp [List.getD_eq_getElem?_getD, ht]
    have hTl : (throwS s t v).threads.length = s.threads.length := by simp [throwS, doneS]
    have hCl : (throwS s t v).cells.length = s.cells.length := by simp [throwS, doneS, doneL]
    have q2 : stateQ wordsT p (throwS s t v) = 0 := throw_state q1 ht (by rw [hd]; exact c3) c4
    simp
    refine unwindLives_ok ?_
    simp
    refine ⟨_, rfl, Wk.refl _, ?_⟩; simp [vcC0]
    refine stCheck_ok p hp (throwS s t v) (okSt_throw q1 hs ht v) ?_
    simp [q2, hTl, hCl]
    intro _ _
    have hcell : ∀ k (hk : k < s.cells.length), ∃ c', (throwS s t v).cells[k]? = some c' ∧ c'.kind = s.cells[k].kind ∧ (c'.num = s.cells[k].num ∨ s.cells[k].kind = 5 ∧ c'.num = 2) := fun k hk => by
      have hG := throw_don q1 ht
      refine ⟨doneC (dropG s.threads[t].frames s.threads[t].frames.length) k s.cells[k], by rw [throwS, hd]; simp [doneS, doneL, hk], doneC_kind, ?_⟩
      rcases done_cell hG hk with e | ⟨e1, e2, e⟩
      · rw [e]; exact .inl rfl
      · rw [e]; exact .inr ⟨e1, rfl⟩
    with_reducible refine ⟨?_, ?_⟩
    · intro _
      refine loopH_ok (ks := [0,1,2,3,4,5,7,8,9,11,12,13,14,15,16,31,60,68,69,70,71,108,112,113,114,118]) (pl := [(6, [0,0,0,0,13,31], (.seg 0 (.seg 1 (.fork 2 [0, 1] (.eff 3 [0, 1] (.eff 4 [1] (.eff 5 [] .last))) (.eff 3 [0, 1] (.eff 2 [0, 1] (.eff 4 [1] (.eff 5 [] .last)))))))), (12, [0,1,0,4,0,28,60,124,255,511,1023,2047,1023,5119,1023,29695,62463,127999,262143,524287,1048575,2097151,4194303,8388607,16777215,33554431,16777215,134217727,268435455,536870911,1073741823,2147483647,4294967295,8589934591], (.seg 0 (.seg 1 (.seg 2 (.seg 3 (.seg 4 (.seg 5 (.seg 6 (.seg 7 (.seg 8 (.seg 9 (.seg 10 (.seg 11 (.seg 12 (.seg 13 (.seg 14 (.seg 15 (.seg 16 (.seg 17 (.seg 18 (.seg 19 (.seg 20 (.seg 21 (.seg 22 (.seg 23 (.seg 24 (.seg 25 (.seg 26 (.seg 27 (.seg 28 (.seg 29 (.seg 30 (.seg 31 (.seg 32 (.seg 33 .last))))))))))))))))))))))))))))))))))), (19, [0,1,0,4,0,28,60,124,255,0,512,0,2048,0,14336,30720,63488,131071,511,524287,1048575,2097151], (.seg 0 (.seg 1 (.seg 2 (.seg 3 (.seg 4 (.seg 5 (.seg 6 (.seg 9 (.seg 11 (.seg 13 (.fork 7 [0, 1, 9, 11] (.fork 8 [9, 11] (.seg 18 (.fork 10 [11, 18] (.eff 12 [18] (.seg 14 (.eff 15 [18] (.eff 16 [18] (.eff 17 [18] (.eff 19 [] (.seg 20 (.eff 21 [] .last)))))))) (.eff 12 [9, 18] (.seg 14 (.fork 10 [14, 18] (.eff 15 [18] (.eff 16 [18] (.eff 17 [18] (.eff 19 [] (.seg 20 (.eff 21 [] .last)))))) (.eff 15 [9, 18] (.fork 10 [18] (.eff 16 [18] (.eff 17 [18] (.eff 19 [] (.seg 20 (.eff 21 [] .last))))) (.eff 16 [9, 18] (.eff 10 [18] (.eff 17 [18] (.eff 19 [] (.seg 20 (.eff 21 [] .last))))))))))))) (.fork 10 [0, 1, 11] (.fork 8 [11] (.seg 18 (.eff 12 [18] (.seg 14 (.eff 15 [18] (.eff 16 [18] (.eff 17 [18] (.eff 19 [] (.seg 20 (.eff 21 [] .last))))))))) (.eff 12 [0, 1] (.seg 14 (.fork 8 [14] (.seg 18 (.eff 15 [18] (.eff 16 [18] (.eff 17 [18] (.eff 19 [] (.seg 20 (.eff 21 [] .last))))))) (.eff 15 [0, 1] (.fork 8 [] (.seg 18 (.eff 16 [18] (.eff 17 [18] (.eff 19 [] (.seg 20 (.eff 21 [] .last)))))) (.eff 16 [0, 1] (.eff 8 [] (.seg 18 (.eff 17 [18] (.eff 19 [] (.seg 20 (.eff 21 [] .last))))))))))))) (.eff 12 [0, 1, 9] (.seg 14 (.fork 8 [9, 14] (.seg 18 (.fork 10 [14, 18] (.eff 15 [18] (.eff 16 [18] (.eff 17 [18] (.eff 19 [] (.seg 20 (.eff 21 [] .last)))))) (.eff 15 [9, 18] (.fork 10 [18] (.eff 16 [18] (.eff 17 [18] (.eff 19 [] (.seg 20 (.eff 21 [] .last))))) (.eff 16 [9, 18] (.eff 10 [18] (.eff 17 [18] (.eff 19 [] (.seg 20 (.eff 21 [] .last)))))))))) (.fork 10 [0, 1, 14] (.fork 8 [14] (.seg 18 (.eff 15 [18] (.eff 16 [18] (.eff 17 [18] (.eff 19 [] (.seg 20 (.eff 21 [] .last))))))) (.eff 15 [0, 1] (.fork 8 [] (.seg 18 (.eff 16 [18] (.eff 17 [18] (.eff 19 [] (.seg 20 (.eff 21 [] .last)))))) (.eff 16 [0, 1] (.eff 8 [] (.seg 18 (.eff 17 [18] (.eff 19 [] (.seg 20 (.eff 21 [] .last)))))))))) (.eff 15 [0, 1, 9] (.fork 8 [9] (.seg 18 (.fork 10 [18] (.eff 16 [18] (.eff 17 [18] (.eff 19 [] (.seg 20 (.eff 21 [] .last))))) (.eff 16 [9, 18] (.eff 10 [18] (.eff 17 [18] (.eff 19 [] (.seg 20 (.eff 21 [] .last)))))))) (.fork 10 [0, 1] (.fork 8 [] (.seg 18 (.eff 16 [18] (.eff 17 [18] (.eff 19 [] (.seg 20 (.eff 21 [] .last)))))) (.eff 16 [0, 1] (.eff 8 [] (.seg 18 (.eff 17 [18] (.eff 19 [] (.seg 20 (.eff 21 [] .last)))))))) (.eff 16 [0, 1, 9] (.fork 8 [9] (.seg 18 (.eff 10 [18] (.eff 17 [18] (.eff 19 [] (.seg 20 (.eff 21 [] .last)))))) (.eff 10 [0, 1] (.eff 8 [] (.seg 18 (.eff 17 [18] (.eff 19 [] (.seg 20 (.eff 21 [] .last)))))))))))))))))) (.fork 10 [0, 1, 2, 3, 5, 6, 11] (.fork 7 [0, 1, 11] (.fork 8 [11] (.seg 18 (.eff 12 [18] (.seg 14 (.eff 15 [18] (.eff 16 [18] (.eff 17 [18] (.eff 19 [] (.seg 20 (.eff 21 [] .last))))))))) (.eff 12 [0, 1] (.seg 14 (.fork 8 [14] (.seg 18 (.eff 15 [18] (.eff 16 [18] (.eff 17 [18] (.eff 19 [] (.seg 20 (.eff 21 [] .last))))))) (.eff 15 [0, 1] (.fork 8 [] (.seg 18 (.eff 16 [18] (.eff 17 [18] (.eff 19 [] (.seg 20 (.eff 21 [] .last)))))) (.eff 16 [0, 1] (.eff 8 [] (.seg 18 (.eff 17 [18] (.eff 19 [] (.seg 20 (.eff 21 [] .last))))))))))))) (.eff 12 [0, 1, 2, 3, 5, 6] (.seg 14 (.fork 7 [0, 1, 14] (.fork 8 [14] (.seg 18 (.eff 15 [18] (.eff 16 [18] (.eff 17 [18] (.eff 19 [] (.seg 20 (.eff 21 [] .last))))))) (.eff 15 [0, 1] (.fork 8 [] (.seg 18 (.eff 16 [18] (.eff 17 [18] (.eff 19 [] (.seg 20 (.eff 21 [] .last)))))) (.eff 16 [0, 1] (.eff 8 [] (.seg 18 (.eff 17 [18] (.eff 19 [] (.seg 20 (.eff 21 [] .last)))))))))) (.eff 15 [0, 1, 2, 3, 5, 6] (.fork 7 [0, 1] (.fork 8 [] (.seg 18 (.eff 16 [18] (.eff 17 [18] (.eff 19 [] (.seg 20 (.eff 21 [] .last)))))) (.eff 16 [0, 1] (.eff 8 [] (.seg 18 (.eff 17 [18] (.eff 19 [] (.seg 20 (.eff 21 [] .last)))))))) (.eff 16 [0, 1, 2, 3, 5, 6] (.eff 7 [0, 1] (.eff 8 [] (.seg 18 (.eff 17 [18] (.eff 19 [] (.seg 20 (.eff 21 [] .last)))))))))))))) (.eff 12 [0, 1, 2, 3, 5, 6, 9] (.seg 14 (.fork 7 [0, 1, 9, 14] (.fork 8 [9, 14] (.seg 18 (.fork 10 [14, 18] (.eff 15 [18] (.eff 16 [18] (.eff 17 [18] (.eff 19 [] (.seg 20 (.eff 21 [] .last)))))) (.eff 15 [9, 18] (.fork 10 [18] (.eff 16 [18] (.eff 17 [18] (.eff 19 [] (.seg 20 (.eff 21 [] .last))))) (.eff 16 [9, 18] (.eff 10 [18] (.eff 17 [18] (.eff 19 [] (.seg 20 (.eff 21 [] .last)))))))))) (.fork 10 [0, 1, 14] (.fork 8 [14] (.seg 18 (.eff 15 [18] (.eff 16 [18] (.eff 17 [18] (.eff 19 [] (.seg 20 (.eff 21 [] .last))))))) (.eff 15 [0, 1] (.fork 8 [] (.seg 18 (.eff 16 [18] (.eff 17 [18] (.eff 19 [] (.seg 20 (.eff 21 [] .last)))))) (.eff 16 [0, 1] (.eff 8 [] (.seg 18 (.eff 17 [18] (.eff 19 [] (.seg 20 (.eff 21 [] .last)))))))))) (.eff 15 [0, 1, 9] (.fork 8 [9] (.seg 18 (.fork 10 [18] (.eff 16 [18] (.eff 17 [18] (.eff 19 [] (.seg 20 (.eff 21 [] .last))))) (.eff 16 [9, 18] (.eff 10 [18] (.eff 17 [18] (.eff 19 [] (.seg 20 (.eff 21 [] .last)))))))) (.fork 10 [0, 1] (.fork 8 [] (.seg 18 (.eff 16 [18] (.eff 17 [18] (.eff 19 [] (.seg 20 (.eff 21 [] .last)))))) (.eff 16 [0, 1] (.eff 8 [] (.seg 18 (.eff 17 [18] (.eff 19 [] (.seg 20 (.eff 21 [] .last)))))))) (.eff 16 [0, 1, 9] (.fork 8 [9] (.seg 18 (.eff 10 [18] (.eff 17 [18] (.eff 19 [] (.seg 20 (.eff 21 [] .last)))))) (.eff 10 [0, 1] (.eff 8 [] (.seg 18 (.eff 17 [18] (.eff 19 [] (.seg 20 (.eff 21 [] .last)))))))))))))) (.fork 10 [0, 1, 2, 3, 5, 6, 14] (.fork 7 [0, 1, 14] (.fork 8 [14] (.seg 18 (.eff 15 [18] (.eff 16 [18] (.eff 17 [18] (.eff 19 [] (.seg 20 (.eff 21 [] .last))))))) (.eff 15 [0, 1] (.fork 8 [] (.seg 18 (.eff 16 [18] (.eff 17 [18] (.eff 19 [] (.seg 20 (.eff 21 [] .last)))))) (.eff 16 [0, 1] (.eff 8 [] (.seg 18 (.eff 17 [18] (.eff 19 [] (.seg 20 (.eff 21 [] .last)))))))))) (.eff 15 [0, 1, 2, 3, 5, 6] (.fork 7 [0, 1] (.fork 8 [] (.seg 18 (.eff 16 [18] (.eff 17 [18] (.eff 19 [] (.seg 20 (.eff 21 [] .last)))))) (.eff 16 [0, 1] (.eff 8 [] (.seg 18 (.eff 17 [18] (.eff 19 [] (.seg 20 (.eff 21 [] .last)))))))) (.eff 16 [0, 1, 2, 3, 5, 6] (.eff 7 [0, 1] (.eff 8 [] (.seg 18 (.eff 17 [18] (.eff 19 [] (.seg 20 (.eff 21 [] .last))))))))))) (.eff 15 [0, 1, 2, 3, 5, 6, 9] (.fork 7 [0, 1, 9] (.fork 8 [9] (.seg 18 (.fork 10 [18] (.eff 16 [18] (.eff 17 [18] (.eff 19 [] (.seg 20 (.eff 21 [] .last))))) (.eff 16 [9, 18] (.eff 10 [18] (.eff 17 [18] (.eff 19 [] (.seg 20 (.eff 21 [] .last)))))))) (.fork 10 [0, 1] (.fork 8 [] (.seg 18 (.eff 16 [18] (.eff 17 [18] (.eff 19 [] (.seg 20 (.eff 21 [] .last)))))) (.eff 16 [0, 1] (.eff 8 [] (.seg 18 (.eff 17 [18] (.eff 19 [] (.seg 20 (.eff 21 [] .last)))))))) (.eff 16 [0, 1, 9] (.fork 8 [9] (.seg 18 (.eff 10 [18] (.eff 17 [18] (.eff 19 [] (.seg 20 (.eff 21 [] .last)))))) (.eff 10 [0, 1] (.eff 8 [] (.seg 18 (.eff 17 [18] (.eff 19 [] (.seg 20 (.eff 21 [] .last))))))))))) (.fork 10 [0, 1, 2, 3, 5, 6] (.fork 7 [0, 1] (.fork 8 [] (.seg 18 (.eff 16 [18] (.eff 17 [18] (.eff 19 [] (.seg 20 (.eff 21 [] .last)))))) (.eff 16 [0, 1] (.eff 8 [] (.seg 18 (.eff 17 [18] (.eff 19 [] (.seg 20 (.eff 21 [] .last)))))))) (.eff 16 [0, 1, 2, 3, 5, 6] (.eff 7 [0, 1] (.eff 8 [] (.seg 18 (.eff 17 [18] (.eff 19 [] (.seg 20 (.eff 21 [] .last))))))))) (.eff 16 [0, 1, 2, 3, 5, 6, 9] (.fork 7 [0, 1, 9] (.fork 8 [9] (.seg 18 (.eff 10 [18] (.eff 17 [18] (.eff 19 [] (.seg 20 (.eff 21 [] .last)))))) (.eff 10 [0, 1] (.eff 8 [] (.seg 18 (.eff 17 [18] (.eff 19 [] (.seg 20 (.eff 21 [] .last)))))))) (.eff 10 [0, 1, 2, 3, 5, 6] (.eff 7 [0, 1] (.eff 8 [] (.seg 18 (.eff 17 [18] (.eff 19 [] (.seg 20 (.eff 21 [] .last))))))))))))))))))))))))))))))]) (n0 := 143) (α := {x : Nat × Nat // x.1 ≤ s.cells.length ∧ 6 ≤ x.2}) (fun x => [(70, dI x.1.1)]) (fun H _ => H) (fun x => x.1.2) (fun x => s.cells.length - x.1.1) ⟨(0, 6), by simp⟩ rfl (by kernel_rfl) (Wk.sub (by simp)) ?_
      rintro ⟨⟨k, n1⟩, hk, hn1⟩
      simp only at hk hn1
      have e0 : ¬ 0 = n1 := by omega
      have e1 : ¬ 1 = n1 := by omega
      have e2 : ¬ 2 = n1 := by omega
      have e3 : ¬ 3 = n1 := by omega
      have e4 : ¬ 4 = n1 := by omega
      have e5 : ¬ 5 = n1 := by omega
      have f0 : ¬ n1 = 0 := by omega
      have f1 : ¬ n1 = 1 := by omega
      have f2 : ¬ n1 = 2 := by omega
      have f3 : ¬ n1 = 3 := by omega
      have f4 : ¬ n1 = 4 := by omega
      have f5 : ¬ n1 = 5 := by omega
      by_cases h1 : k < s.cells.length
      · obtain ⟨c', y1, y2, y3⟩ := hcell k h1
        obtain ⟨y4, y5⟩ := List.getElem?_eq_some_iff.1 y1
        have hw : IntKind.i64.wrap ((k : Int) + 1) = (k : Int) + 1 := wrap_id (by omega) (by omega)
        rcases y3 with y3 | ⟨y3, y6⟩
        · simp [h1, e0, e1, e2, e3, e4, e5, f0, f1, f2, f3, f4, f5, y4, y5, y2, y3]
          exact ⟨k + 1, by omega, n1 + 1, ⟨by omega, by omega⟩, Wk.sub2 (by simp [hw]) rfl (by (repeat rw [Hp.set_ne _ _ (by omega)]); rfl)⟩
        · simp [h1, e0, e1, e2, e3, e4, e5, f0, f1, f2, f3, f4, f5, y4, y5, y2, y3, y6]
          exact ⟨k + 1, by omega, n1 + 1, ⟨by omega, by omega⟩, Wk.sub2 (by simp [hw]) rfl (by (repeat rw [Hp.set_ne _ _ (by omega)]); rfl)⟩
      · obtain rfl : k = s.cells.length := by omega
        simp
        intro _
        refine loopH_ok (ks := [0,1,2,3,4,5,7,8,9,11,12,13,14,15,16,31,60,68,69,70,71,108,112,113,114,118]) (pl := [(6, [0,0,0,0,13,31], (.seg 0 (.seg 1 (.fork 2 [0, 1] (.eff 3 [0, 1] (.eff 4 [1] (.eff 5 [] .last))) (.eff 3 [0, 1] (.eff 2 [0, 1] (.eff 4 [1] (.eff 5 [] .last)))))))), (12, [0,1,0,4,0,28,60,124,255,511,1023,2047,1023,5119,1023,29695,62463,127999,262143,524287,1048575,2097151,4194303,8388607,16777215,33554431,16777215,134217727,268435455,536870911,1073741823,2147483647,4294967295,8589934591], (.seg 0 (.seg 1 (.seg 2 (.seg 3 (.seg 4 (.seg 5 (.seg 6 (.seg 7 (.seg 8 (.seg 9 (.seg 10 (.seg 11 (.seg 12 (.seg 13 (.seg 14 (.seg 15 (.seg 16 (.seg 17 (.seg 18 (.seg 19 (.seg 20 (.seg 21 (.seg 22 (.seg 23 (.seg 24 (.seg 25 (.seg 26 (.seg 27 (.seg 28 (.seg 29 (.seg 30 (.seg 31 (.seg 32 (.seg 33 .last))))))))))))))))))))))))))))))))))), (19, [0,1,0,4,0,28,60,124,255,0,512,0,2048,0,14336,30720,63488,131071,511,524287,1048575,2097151], (.seg 0 (.seg 1 (.seg 2 (.seg 3 (.seg 4 (.seg 5 (.seg 6 (.seg 9 (.seg 11 (.seg 13 (.fork 7 [0, 1, 9, 11] (.fork 8 [9, 11] (.seg 18 (.fork 10 [11, 18] (.eff 12 [18] (.seg 14 (.eff 15 [18] (.eff 16 [18] (.eff 17 [18] (.eff 19 [] (.seg 20 (.eff 21 [] .last)))))))) (.eff 12 [9, 18] (.seg 14 (.fork 10 [14, 18] (.eff 15 [18] (.eff 16 [18] (.eff 17 [18] (.eff 19 [] (.seg 20 (.eff 21 [] .last)))))) (.eff 15 [9, 18] (.fork 10 [18] (.eff 16 [18] (.eff 17 [18] (.eff 19 [] (.seg 20 (.eff 21 [] .last))))) (.eff 16 [9, 18] (.eff 10 [18] (.eff 17 [18] (.eff 19 [] (.seg 20 (.eff 21 [] .last))))))))))))) (.fork 10 [0, 1, 11] (.fork 8 [11] (.seg 18 (.eff 12 [18] (.seg 14 (.eff 15 [18] (.eff 16 [18] (.eff 17 [18] (.eff 19 [] (.seg 20 (.eff 21 [] .last))))))))) (.eff 12 [0, 1] (.seg 14 (.fork 8 [14] (.seg 18 (.eff 15 [18] (.eff 16 [18] (.eff 17 [18] (.eff 19 [] (.seg 20 (.eff 21 [] .last))))))) (.eff 15 [0, 1] (.fork 8 [] (.seg 18 (.eff 16 [18] (.eff 17 [18] (.eff 19 [] (.seg 20 (.eff 21 [] .last)))))) (.eff 16 [0, 1] (.eff 8 [] (.seg 18 (.eff 17 [18] (.eff 19 [] (.seg 20 (.eff 21 [] .last))))))))))))) (.eff 12 [0, 1, 9] (.seg 14 (.fork 8 [9, 14] (.seg 18 (.fork 10 [14, 18] (.eff 15 [18] (.eff 16 [18] (.eff 17 [18] (.eff 19 [] (.seg 20 (.eff 21 [] .last)))))) (.eff 15 [9, 18] (.fork 10 [18] (.eff 16 [18] (.eff 17 [18] (.eff 19 [] (.seg 20 (.eff 21 [] .last))))) (.eff 16 [9, 18] (.eff 10 [18] (.eff 17 [18] (.eff 19 [] (.seg 20 (.eff 21 [] .last)))))))))) (.fork 10 [0, 1, 14] (.fork 8 [14] (.seg 18 (.eff 15 [18] (.eff 16 [18] (.eff 17 [18] (.eff 19 [] (.seg 20 (.eff 21 [] .last))))))) (.eff 15 [0, 1] (.fork 8 [] (.seg 18 (.eff 16 [18] (.eff 17 [18] (.eff 19 [] (.seg 20 (.eff 21 [] .last)))))) (.eff 16 [0, 1] (.eff 8 [] (.seg 18 (.eff 17 [18] (.eff 19 [] (.seg 20 (.eff 21 [] .last)))))))))) (.eff 15 [0, 1, 9] (.fork 8 [9] (.seg 18 (.fork 10 [18] (.eff 16 [18] (.eff 17 [18] (.eff 19 [] (.seg 20 (.eff 21 [] .last))))) (.eff 16 [9, 18] (.eff 10 [18] (.eff 17 [18] (.eff 19 [] (.seg 20 (.eff 21 [] .last)))))))) (.fork 10 [0, 1] (.fork 8 [] (.seg 18 (.eff 16 [18] (.eff 17 [18] (.eff 19 [] (.seg 20 (.eff 21 [] .last)))))) (.eff 16 [0, 1] (.eff 8 [] (.seg 18 (.eff 17 [18] (.eff 19 [] (.seg 20 (.eff 21 [] .last)))))))) (.eff 16 [0, 1, 9] (.fork 8 [9] (.seg 18 (.eff 10 [18] (.eff 17 [18] (.eff 19 [] (.seg 20 (.eff 21 [] .last)))))) (.eff 10 [0, 1] (.eff 8 [] (.seg 18 (.eff 17 [18] (.eff 19 [] (.seg 20 (.eff 21 [] .last)))))))))))))))))) (.fork 10 [0, 1, 2, 3, 5, 6, 11] (.fork 7 [0, 1, 11] (.fork 8 [11] (.seg 18 (.eff 12 [18] (.seg 14 (.eff 15 [18] (.eff 16 [18] (.eff 17 [18] (.eff 19 [] (.seg 20 (.eff 21 [] .last))))))))) (.eff 12 [0, 1] (.seg 14 (.fork 8 [14] (.seg 18 (.eff 15 [18] (.eff 16 [18] (.eff 17 [18] (.eff 19 [] (.seg 20 (.eff 21 [] .last))))))) (.eff 15 [0, 1] (.fork 8 [] (.seg 18 (.eff 16 [18] (.eff 17 [18] (.eff 19 [] (.seg 20 (.eff 21 [] .last)))))) (.eff 16 [0, 1] (.eff 8 [] (.seg 18 (.eff 17 [18] (.eff 19 [] (.seg 20 (.eff 21 [] .last))))))))))))) (.eff 12 [0, 1, 2, 3, 5, 6] (.seg 14 (.fork 7 [0, 1, 14] (.fork 8 [14] (.seg 18 (.eff 15 [18] (.eff 16 [18] (.eff 17 [18] (.eff 19 [] (.seg 20 (.eff 21 [] .last))))))) (.eff 15 [0, 1] (.fork 8 [] (.seg 18 (.eff 16 [18] (.eff 17 [18] (.eff 19 [] (.seg 20 (.eff 21 [] .last)))))) (.eff 16 [0, 1] (.eff 8 [] (.seg 18 (.eff 17 [18] (.eff 19 [] (.seg 20 (.eff 21 [] .last)))))))))) (.eff 15 [0, 1, 2, 3, 5, 6] (.fork 7 [0, 1] (.fork 8 [] (.seg 18 (.eff 16 [18] (.eff 17 [18] (.eff 19 [] (.seg 20 (.eff 21 [] .last)))))) (.eff 16 [0, 1] (.eff 8 [] (.seg 18 (.eff 17 [18] (.eff 19 [] (.seg 20 (.eff 21 [] .last)))))))) (.eff 16 [0, 1, 2, 3, 5, 6] (.eff 7 [0, 1] (.eff 8 [] (.seg 18 (.eff 17 [18] (.eff 19 [] (.seg 20 (.eff 21 [] .last)))))))))))))) (.eff 12 [0, 1, 2, 3, 5, 6, 9] (.seg 14 (.fork 7 [0, 1, 9, 14] (.fork 8 [9, 14] (.seg 18 (.fork 10 [14, 18] (.eff 15 [18] (.eff 16 [18] (.eff 17 [18] (.eff 19 [] (.seg 20 (.eff 21 [] .last)))))) (.eff 15 [9, 18] (.fork 10 [18] (.eff 16 [18] (.eff 17 [18] (.eff 19 [] (.seg 20 (.eff 21 [] .last))))) (.eff 16 [9, 18] (.eff 10 [18] (.eff 17 [18] (.eff 19 [] (.seg 20 (.eff 21 [] .last)))))))))) (.fork 10 [0, 1, 14] (.fork 8 [14] (.seg 18 (.eff 15 [18] (.eff 16 [18] (.eff 17 [18] (.eff 19 [] (.seg 20 (.eff 21 [] .last))))))) (.eff 15 [0, 1] (.fork 8 [] (.seg 18 (.eff 16 [18] (.eff 17 [18] (.eff 19 [] (.seg 20 (.eff 21 [] .last)))))) (.eff 16 [0, 1] (.eff 8 [] (.seg 18 (.eff 17 [18] (.eff 19 [] (.seg 20 (.eff 21 [] .last)))))))))) (.eff 15 [0, 1, 9] (.fork 8 [9] (.seg 18 (.fork 10 [18] (.eff 16 [18] (.eff 17 [18] (.eff 19 [] (.seg 20 (.eff 21 [] .last))))) (.eff 16 [9, 18] (.eff 10 [18] (.eff 17 [18] (.eff 19 [] (.seg 20 (.eff 21 [] .last)))))))) (.fork 10 [0, 1] (.fork 8 [] (.seg 18 (.eff 16 [18] (.eff 17 [18] (.eff 19 [] (.seg 20 (.eff 21 [] .last)))))) (.eff 16 [0, 1] (.eff 8 [] (.seg 18 (.eff 17 [18] (.eff 19 [] (.seg 20 (.eff 21 [] .last)))))))) (.eff 16 [0, 1, 9] (.fork 8 [9] (.seg 18 (.eff 10 [18] (.eff 17 [18] (.eff 19 [] (.seg 20 (.eff 21 [] .last)))))) (.eff 10 [0, 1] (.eff 8 [] (.seg 18 (.eff 17 [18] (.eff 19 [] (.seg 20 (.eff 21 [] .last)))))))))))))) (.fork 10 [0, 1, 2, 3, 5, 6, 14] (.fork 7 [0, 1, 14] (.fork 8 [14] (.seg 18 (.eff 15 [18] (.eff 16 [18] (.eff 17 [18] (.eff 19 [] (.seg 20 (.eff 21 [] .last))))))) (.eff 15 [0, 1] (.fork 8 [] (.seg 18 (.eff 16 [18] (.eff 17 [18] (.eff 19 [] (.seg 20 (.eff 21 [] .last)))))) (.eff 16 [0, 1] (.eff 8 [] (.seg 18 (.eff 17 [18] (.eff 19 [] (.seg 20 (.eff 21 [] .last)))))))))) (.eff 15 [0, 1, 2, 3, 5, 6] (.fork 7 [0, 1] (.fork 8 [] (.seg 18 (.eff 16 [18] (.eff 17 [18] (.eff 19 [] (.seg 20 (.eff 21 [] .last)))))) (.eff 16 [0, 1] (.eff 8 [] (.seg 18 (.eff 17 [18] (.eff 19 [] (.seg 20 (.eff 21 [] .last)))))))) (.eff 16 [0, 1, 2, 3, 5, 6] (.eff 7 [0, 1] (.eff 8 [] (.seg 18 (.eff 17 [18] (.eff 19 [] (.seg 20 (.eff 21 [] .last))))))))))) (.eff 15 [0, 1, 2, 3, 5, 6, 9] (.fork 7 [0, 1, 9] (.fork 8 [9] (.seg 18 (.fork 10 [18] (.eff 16 [18] (.eff 17 [18] (.eff 19 [] (.seg 20 (.eff 21 [] .last))))) (.eff 16 [9, 18] (.eff 10 [18] (.eff 17 [18] (.eff 19 [] (.seg 20 (.eff 21 [] .last)))))))) (.fork 10 [0, 1] (.fork 8 [] (.seg 18 (.eff 16 [18] (.eff 17 [18] (.eff 19 [] (.seg 20 (.eff 21 [] .last)))))) (.eff 16 [0, 1] (.eff 8 [] (.seg 18 (.eff 17 [18] (.eff 19 [] (.seg 20 (.eff 21 [] .last)))))))) (.eff 16 [0, 1, 9] (.fork 8 [9] (.seg 18 (.eff 10 [18] (.eff 17 [18] (.eff 19 [] (.seg 20 (.eff 21 [] .last)))))) (.eff 10 [0, 1] (.eff 8 [] (.seg 18 (.eff 17 [18] (.eff 19 [] (.seg 20 (.eff 21 [] .last))))))))))) (.fork 10 [0, 1, 2, 3, 5, 6] (.fork 7 [0, 1] (.fork 8 [] (.seg 18 (.eff 16 [18] (.eff 17 [18] (.eff 19 [] (.seg 20 (.eff 21 [] .last)))))) (.eff 16 [0, 1] (.eff 8 [] (.seg 18 (.eff 17 [18] (.eff 19 [] (.seg 20 (.eff 21 [] .last)))))))) (.eff 16 [0, 1, 2, 3, 5, 6] (.eff 7 [0, 1] (.eff 8 [] (.seg 18 (.eff 17 [18] (.eff 19 [] (.seg 20 (.eff 21 [] .last))))))))) (.eff 16 [0, 1, 2, 3, 5, 6, 9] (.fork 7 [0, 1, 9] (.fork 8 [9] (.seg 18 (.eff 10 [18] (.eff 17 [18] (.eff 19 [] (.seg 20 (.eff 21 [] .last)))))) (.eff 10 [0, 1] (.eff 8 [] (.seg 18 (.eff 17 [18] (.eff 19 [] (.seg 20 (.eff 21 [] .last)))))))) (.eff 10 [0, 1, 2, 3, 5, 6] (.eff 7 [0, 1] (.eff 8 [] (.seg 18 (.eff 17 [18] (.eff 19 [] (.seg 20 (.eff 21 [] .last))))))))))))))))))))))))))))))]) (n0 := 143) (α := {x : StyS // StyI s 4 5 x}) (fun x => [(113, dI x.1.k)]) (fun _ x => styH s (throwS s t v) 4 5 x.1) (fun x => x.1.nx) (fun x => s.threads.length - x.1.k) ⟨⟨0, [], n1, n1 + 1, n1 + 2⟩, by constructor <;> (try simp) <;> omega⟩ rfl (by kernel_rfl) ?_ ?_
        · refine (Wk.ownC 56 5 (m := 4) (t := .c 32) (k := 8) (R := [[.d .emp, .d (.sl true (s.shapes.map eShape)), .d (.sl true (s.texts.map eStr)), .d .emp, .d (.sl true (s.ends.map eEnd)), .d (.sl true (s.said.map eVal)), .d (eI s.asked), .d (eI s.steps)]]) (row := [.d .emp, .d (.sl true (s.shapes.map eShape)), .d (.sl true (s.texts.map eStr)), .d .emp, .d (.sl true (s.ends.map eEnd)), .d (.sl true (s.said.map eVal)), .d (eI s.asked), .d (eI s.steps)]) (i := 0) (j := 3) ?_ rfl rfl).trans ((Wk.ownC 56 5 (m := 5) (t := .c 32) (k := 8) (R := [[.d .emp, .d (.sl true ((throwS s t v).shapes.map eShape)), .d (.sl true ((throwS s t v).texts.map eStr)), .d .emp, .d (.sl true ((throwS s t v).ends.map eEnd)), .d (.sl true ((throwS s t v).said.map eVal)), .d (eI (throwS s t v).asked), .d (eI (throwS s t v).steps)]]) (row := [.d .emp, .d (.sl true ((throwS s t v).shapes.map eShape)), .d (.sl true ((throwS s t v).texts.map eStr)), .d .emp, .d (.sl true ((throwS s t v).ends.map eEnd)), .d (.sl true ((throwS s t v).said.map eVal)), .d (eI (throwS s t v).asked), .d (eI (throwS s t v).steps)]) (i := 0) (j := 3) ?_ rfl rfl).trans ((Wk.sub (by simp)).trans (Wk.heap fun i y hy => ?_)))
          · repeat (first | rw [Hp.set_same] | rw [Hp.set_ne _ _ (by omega)])
          · repeat (first | rw [Hp.set_same] | rw [Hp.set_ne _ _ (by omega)])
          · unfold styH at hy
            simp only at hy
            by_cases i1 : i = n1 + 1
            · subst i1; (repeat (first | rw [Hp.set_same] at hy | rw [Hp.set_ne _ _ (by omega)] at hy)); (repeat (first | rw [Hp.set_same] | rw [Hp.set_ne _ _ (by omega)])); simpa using hy
            by_cases i2 : i = n1
            · subst i2; (repeat (first | rw [Hp.set_same] at hy | rw [Hp.set_ne _ _ (by omega)] at hy)); (repeat (first | rw [Hp.set_same] | rw [Hp.set_ne _ _ (by omega)])); simpa using hy
            by_cases i3 : i = 5
            · subst i3; (repeat (first | rw [Hp.set_same] at hy | rw [Hp.set_ne _ _ (by omega)] at hy)); (repeat (first | rw [Hp.set_same] | rw [Hp.set_ne _ _ (by omega)])); simpa using hy
            by_cases i4 : i = 4
            · subst i4; (repeat (first | rw [Hp.set_same] at hy | rw [Hp.set_ne _ _ (by omega)] at hy)); (repeat (first | rw [Hp.set_same] | rw [Hp.set_ne _ _ (by omega)])); simpa using hy
            by_cases i5 : i = 3
            · subst i5; (repeat (first | rw [Hp.set_same] at hy | rw [Hp.set_ne _ _ (by omega)] at hy)); (repeat (first | rw [Hp.set_same] | rw [Hp.set_ne _ _ (by omega)])); simpa using hy
            by_cases i6 : i = 1
            · subst i6; (repeat (first | rw [Hp.set_same] at hy | rw [Hp.set_ne _ _ (by omega)] at hy)); (repeat (first | rw [Hp.set_same] | rw [Hp.set_ne _ _ (by omega)])); simpa using hy
            (repeat (first | rw [Hp.set_same] at hy | rw [Hp.set_ne _ _ (by omega)] at hy))
            cases hy
        · rintro ⟨⟨k, L, p1, p2, n2⟩, hI⟩
          obtain ⟨hk, hL, v1, v2, v12, l1, l2⟩ := hI
          simp only at hk hL v1 v2 v12 l1 l2
          obtain ⟨Hc, hHc⟩ : ∃ Hc, Hc = styH s (throwS s t v) 4 5 ⟨k, L, p1, p2, n2⟩ := ⟨_, rfl⟩
          have a1 : Hc 1 = some ⟨.c 32, 8, [(eState s).map .d]⟩ := by rw [hHc]; unfold styH; simp only; (repeat (first | rw [Hp.set_same] | rw [Hp.set_ne _ _ (by omega)]))
          have a3 : Hc 3 = some ⟨.c 32, 8, [(eState (throwS s t v)).map .d]⟩ := by rw [hHc]; unfold styH; simp only; (repeat (first | rw [Hp.set_same] | rw [Hp.set_ne _ _ (by omega)]))
          have aA : Hc 4 = some ⟨.c 32, 8, [[.d .emp, .d (.sl true (s.shapes.map eShape)), .d (.sl true (s.texts.map eStr)), .own p1 5 L.length, .d (.sl true (s.ends.map eEnd)), .d (.sl true (s.said.map eVal)), .d (eI s.asked), .d (eI s.steps)]]⟩ := by rw [hHc]; unfold styH; simp only; (repeat (first | rw [Hp.set_same] | rw [Hp.set_ne _ _ (by omega)]))
          have aB : Hc 5 = some ⟨.c 32, 8, [[.d .emp, .d (.sl true ((throwS s t v).shapes.map eShape)), .d (.sl true ((throwS s t v).texts.map eStr)), .own p2 5 L.length, .d (.sl true ((throwS s t v).ends.map eEnd)), .d (.sl true ((throwS s t v).said.map eVal)), .d (eI (throwS s t v).asked), .d (eI (throwS s t v).steps)]]⟩ := by rw [hHc]; unfold styH; simp only; (repeat (first | rw [Hp.set_same] | rw [Hp.set_ne _ _ (by omega)]))
          have aP : Hc p1 = some ⟨.c 56, 5, L.map fun t => (eThread t).map .d⟩ := by rw [hHc]; unfold styH; simp only; (repeat (first | rw [Hp.set_same] | rw [Hp.set_ne _ _ (by omega)]))
          have aQ : Hc p2 = some ⟨.c 56, 5, L.map fun t => (eThread t).map .d⟩ := by rw [hHc]; unfold styH; simp only; (repeat (first | rw [Hp.set_same] | rw [Hp.set_ne _ _ (by omega)]))
          simp only
          rw [← hHc]
          have z0 : ¬ 1 = n2 := by omega
          have z1 : ¬ n2 = 1 := by omega
          have z2 : ¬ 1 = n2 + 1 := by omega
          have z3 : ¬ n2 + 1 = 1 := by omega
          have z4 : ¬ 1 = n2 + 2 := by omega
          have z5 : ¬ n2 + 2 = 1 := by omega
          have z6 : ¬ 1 = n2 + 3 := by omega
          have z7 : ¬ n2 + 3 = 1 := by omega
          have z8 : ¬ 1 = n2 + 4 := by omega
          have z9 : ¬ n2 + 4 = 1 := by omega
          have z10 : ¬ 3 = n2 := by omega
          have z11 : ¬ n2 = 3 := by omega
          have z12 : ¬ 3 = n2 + 1 := by omega
          have z13 : ¬ n2 + 1 = 3 := by omega
          have z14 : ¬ 3 = n2 + 2 := by omega
          have z15 : ¬ n2 + 2 = 3 := by omega
          have z16 : ¬ 3 = n2 + 3 := by omega
          have z17 : ¬ n2 + 3 = 3 := by omega
          have z18 : ¬ 3 = n2 + 4 := by omega
          have z19 : ¬ n2 + 4 = 3 := by omega
          have z20 : ¬ 4 = n2 := by omega
          have z21 : ¬ n2 = 4 := by omega
          have z22 : ¬ 4 = n2 + 1 := by omega
          have z23 : ¬ n2 + 1 = 4 := by omega
          have z24 : ¬ 4 = n2 + 2 := by omega
          have z25 : ¬ n2 + 2 = 4 := by omega
          have z26 : ¬ 4 = n2 + 3 := by omega
          have z27 : ¬ n2 + 3 = 4 := by omega
          have z28 : ¬ 4 = n2 + 4 := by omega
          have z29 : ¬ n2 + 4 = 4 := by omega
          have z30 : ¬ 5 = n2 := by omega
          have z31 : ¬ n2 = 5 := by omega
          have z32 : ¬ 5 = n2 + 1 := by omega
          have z33 : ¬ n2 + 1 = 5 := by omega
          have z34 : ¬ 5 = n2 + 2 := by omega
          have z35 : ¬ n2 + 2 = 5 := by omega
          have z36 : ¬ 5 = n2 + 3 := by omega
          have z37 : ¬ n2 + 3 = 5 := by omega
          have z38 : ¬ 5 = n2 + 4 := by omega
          have z39 : ¬ n2 + 4 = 5 := by omega
          have z40 : ¬ p1 = n2 := by omega
          have z41 : ¬ n2 = p1 := by omega
          have z42 : ¬ p1 = n2 + 1 := by omega
          have z43 : ¬ n2 + 1 = p1 := by omega
          have z44 : ¬ p1 = n2 + 2 := by omega
          have z45 : ¬ n2 + 2 = p1 := by omega
          have z46 : ¬ p1 = n2 + 3 := by omega
          have z47 : ¬ n2 + 3 = p1 := by omega
          have z48 : ¬ p1 = n2 + 4 := by omega
          have z49 : ¬ n2 + 4 = p1 := by omega
          have z50 : ¬ p2 = n2 := by omega
          have z51 : ¬ n2 = p2 := by omega
          have z52 : ¬ p2 = n2 + 1 := by omega
          have z53 : ¬ n2 + 1 = p2 := by omega
          have z54 : ¬ p2 = n2 + 2 := by omega
          have z55 : ¬ n2 + 2 = p2 := by omega
          have z56 : ¬ p2 = n2 + 3 := by omega
          have z57 : ¬ n2 + 3 = p2 := by omega
          have z58 : ¬ p2 = n2 + 4 := by omega
          have z59 : ¬ n2 + 4 = p2 := by omega
          have z60 : ¬ 1 = p1 := by omega
          have z61 : ¬ p1 = 1 := by omega
          have z62 : ¬ 1 = p2 := by omega
          have z63 : ¬ p2 = 1 := by omega
          have z64 : ¬ 3 = p1 := by omega
          have z65 : ¬ p1 = 3 := by omega
          have z66 : ¬ 3 = p2 := by omega
          have z67 : ¬ p2 = 3 := by omega
          have z68 : ¬ 4 = p1 := by omega
          have z69 : ¬ p1 = 4 := by omega
          have z70 : ¬ 4 = p2 := by omega
          have z71 : ¬ p2 = 4 := by omega
          have z72 : ¬ 5 = p1 := by omega
          have z73 : ¬ p1 = 5 := by omega
          have z74 : ¬ 5 = p2 := by omega
          have z75 : ¬ p2 = 5 := by omega
          have z76 : ¬ p1 = p2 := by omega
          have z77 : ¬ p2 = p1 := by omega
          by_cases h2 : k < s.threads.length
          · have hw : IntKind.i64.wrap ((k : Int) + 1) = (k : Int) + 1 := wrap_id (by omega) (by omega)
            by_cases h3 : k = t
            · subst h3
              simp [h2]
              exact ⟨⟨k + 1, L, p1, p2, n2⟩, by simp only; omega, ⟨by simp only; omega, by simp only; omega, v1, v2, v12, l1, l2⟩, Wk.subH (by simp [hw]) hHc⟩
            · have hz5 := (sized_of q1).threads
              have hthr : (throwS s t v).threads[k]? = some s.threads[k] := by
                simp only [throwS, doneS]
                rw [List.getElem?_set_ne (fun e => h3 e.symm), List.getElem?_eq_getElem h2]
              obtain ⟨y1, y2⟩ := List.getElem?_eq_some_iff.1 hthr
              have h3' : ¬ (k : Int) = t := by omega
              simp [h2, h3, h3', y1, y2, a1, a3, aA, aB, aP, aQ, hTl, Nat.add_assoc, z0, z1, z2, z3, z4, z5, z6, z7, z8, z9, z10, z11, z12, z13, z14, z15, z16, z17, z18, z19, z20, z21, z22, z23, z24, z25, z26, z27, z28, z29, z30, z31, z32, z33, z34, z35, z36, z37, z38, z39, z40, z41, z42, z43, z44, z45, z46, z47, z48, z49, z50, z51, z52, z53, z54, z55, z56, z57, z58, z59, z60, z61, z62, z63, z64, z65, z66, z67, z68, z69, z70, z71, z72, z73, z74, z75, z76, z77]
              repeat' (with_reducible refine And.intro ?_ ?_)
              all_goals first
                | (intro m b em hm
                   subst em
                   simp [aP, aQ, z0, z1, z2, z3, z4, z5, z6, z7, z8, z9, z10, z11, z12, z13, z14, z15, z16, z17, z18, z19, z20, z21, z22, z23, z24, z25, z26, z27, z28, z29, z30, z31, z32, z33, z34, z35, z36, z37, z38, z39, z40, z41, z42, z43, z44, z45, z46, z47, z48, z49, z50, z51, z52, z53, z54, z55, z56, z57, z58, z59, z60, z61, z62, z63, z64, z65, z66, z67, z68, z69, z70, z71, z72, z73, z74, z75, z76, z77] at hm
                   subst hm
                   exact ⟨rfl, rfl⟩)
                | (left; omega)
                | (refine ⟨⟨k + 1, L ++ [s.threads[k]], n2 + 1, n2 + 3, n2 + 4⟩, ?_, ?_, Wk.trans (Wk.sub ?_) (Wk.heap (styH_wk ?_ ?_ ?_ ?_ ?_ ?_))⟩
                   · simp only; omega
                   · exact ⟨by simp only; omega, by simp; omega, by simp only; omega, by simp only; omega, by simp only; omega, by simp only; omega, by simp only; omega⟩
                   · simp [hw]
                   all_goals (repeat (first | rw [Hp.set_same] | rw [Hp.set_ne _ _ (by omega)]))
                   · exact a1
                   · exact a3
                   all_goals (simp; done))
                | (refine ⟨⟨k + 1, L ++ [s.threads[k]], n2 + 2, n2 + 3, n2 + 4⟩, ?_, ?_, Wk.trans (Wk.sub ?_) (Wk.heap (styH_wk ?_ ?_ ?_ ?_ ?_ ?_))⟩
                   · simp only; omega
                   · exact ⟨by simp only; omega, by simp; omega, by simp only; omega, by simp only; omega, by simp only; omega, by simp only; omega, by simp only; omega⟩
                   · simp [hw]
                   all_goals (repeat (first | rw [Hp.set_same] | rw [Hp.set_ne _ _ (by omega)]))
                   · exact a1
                   · exact a3
                   all_goals (simp; done))
          · obtain rfl : k = s.threads.length := by omega
            simp [aA, aB]
            refine ⟨⟨143, [(140, aD (eState ⟨[], s.shapes, s.texts, L, s.ends, s.said, s.asked, s.steps⟩)), (141, aD (eState ⟨[], (throwS s t v).shapes, (throwS s t v).texts, L, (throwS s t v).ends, (throwS s t v).said, (throwS s t v).asked, (throwS s t v).steps⟩))], Hp.none, n2⟩, rfl,
              Wk.deepT (fun q => q = p1 ∨ q = p2) (tm1 := [(140, .agg [.d .emp, .d (.sl true (s.shapes.map eShape)), .d (.sl true (s.texts.map eStr)), .own p1 5 L.length, .d (.sl true (s.ends.map eEnd)), .d (.sl true (s.said.map eVal)), .d (eI s.asked), .d (eI s.steps)]), (141, .agg [.d .emp, .d (.sl true ((throwS s t v).shapes.map eShape)), .d (.sl true ((throwS s t v).texts.map eStr)), .own p2 5 L.length, .d (.sl true ((throwS s t v).ends.map eEnd)), .d (.sl true ((throwS s t v).said.map eVal)), .d (eI (throwS s t v).asked), .d (eI (throwS s t v).steps)])]) rfl
                ⟨rfl, ⟨.inr ⟨_, rfl, .emp⟩, .inl rfl, .inl rfl, .inr ⟨_, rfl, Shw.row (.inl rfl) aP rfl (by simp) (by simp) (by simp) (by simp)⟩, .inl rfl, .inl rfl, .inl rfl, .inl rfl, trivial⟩,
                 rfl, ⟨.inr ⟨_, rfl, .emp⟩, .inl rfl, .inl rfl, .inr ⟨_, rfl, Shw.row (.inr rfl) aQ rfl (by simp) (by simp) (by simp) (by simp)⟩, .inl rfl, .inl rfl, .inl rfl, .inl rfl, trivial⟩, trivial⟩ (fun i y hy => by simp [Hp.none] at hy), ?_⟩
            simp [vcC0]
            refine same_ok ⟨[], s.shapes, s.texts, L, s.ends, s.said, s.asked, s.steps⟩ ⟨[], (throwS s t v).shapes, (throwS s t v).texts, L, (throwS s t v).ends, (throwS s t v).said, (throwS s t v).asked, (throwS s t v).steps⟩ ?_
            simp [throwS, doneS]
    · intro _
      refine loopH_ok (ks := [0,1,2,3,4,5,7,8,9,11,12,13,14,15,16,31,60,68,69,70,71,108,112,113,114,118]) (pl := [(6, [0,0,0,0,13,31], (.seg 0 (.seg 1 (.fork 2 [0, 1] (.eff 3 [0, 1] (.eff 4 [1] (.eff 5 [] .last))) (.eff 3 [0, 1] (.eff 2 [0, 1] (.eff 4 [1] (.eff 5 [] .last)))))))), (12, [0,1,0,4,0,28,60,124,255,511,1023,2047,1023,5119,1023,29695,62463,127999,262143,524287,1048575,2097151,4194303,8388607,16777215,33554431,16777215,134217727,268435455,536870911,1073741823,2147483647,4294967295,8589934591], (.seg 0 (.seg 1 (.seg 2 (.seg 3 (.seg 4 (.seg 5 (.seg 6 (.seg 7 (.seg 8 (.seg 9 (.seg 10 (.seg 11 (.seg 12 (.seg 13 (.seg 14 (.seg 15 (.seg 16 (.seg 17 (.seg 18 (.seg 19 (.seg 20 (.seg 21 (.seg 22 (.seg 23 (.seg 24 (.seg 25 (.seg 26 (.seg 27 (.seg 28 (.seg 29 (.seg 30 (.seg 31 (.seg 32 (.seg 33 .last))))))))))))))))))))))))))))))))))), (19, [0,1,0,4,0,28,60,124,255,0,512,0,2048,0,14336,30720,63488,131071,511,524287,1048575,2097151], (.seg 0 (.seg 1 (.seg 2 (.seg 3 (.seg 4 (.seg 5 (.seg 6 (.seg 9 (.seg 11 (.seg 13 (.fork 7 [0, 1, 9, 11] (.fork 8 [9, 11] (.seg 18 (.fork 10 [11, 18] (.eff 12 [18] (.seg 14 (.eff 15 [18] (.eff 16 [18] (.eff 17 [18] (.eff 19 [] (.seg 20 (.eff 21 [] .last)))))))) (.eff 12 [9, 18] (.seg 14 (.fork 10 [14, 18] (.eff 15 [18] (.eff 16 [18] (.eff 17 [18] (.eff 19 [] (.seg 20 (.eff 21 [] .last)))))) (.eff 15 [9, 18] (.fork 10 [18] (.eff 16 [18] (.eff 17 [18] (.eff 19 [] (.seg 20 (.eff 21 [] .last))))) (.eff 16 [9, 18] (.eff 10 [18] (.eff 17 [18] (.eff 19 [] (.seg 20 (.eff 21 [] .last))))))))))))) (.fork 10 [0, 1, 11] (.fork 8 [11] (.seg 18 (.eff 12 [18] (.seg 14 (.eff 15 [18] (.eff 16 [18] (.eff 17 [18] (.eff 19 [] (.seg 20 (.eff 21 [] .last))))))))) (.eff 12 [0, 1] (.seg 14 (.fork 8 [14] (.seg 18 (.eff 15 [18] (.eff 16 [18] (.eff 17 [18] (.eff 19 [] (.seg 20 (.eff 21 [] .last))))))) (.eff 15 [0, 1] (.fork 8 [] (.seg 18 (.eff 16 [18] (.eff 17 [18] (.eff 19 [] (.seg 20 (.eff 21 [] .last)))))) (.eff 16 [0, 1] (.eff 8 [] (.seg 18 (.eff 17 [18] (.eff 19 [] (.seg 20 (.eff 21 [] .last))))))))))))) (.eff 12 [0, 1, 9] (.seg 14 (.fork 8 [9, 14] (.seg 18 (.fork 10 [14, 18] (.eff 15 [18] (.eff 16 [18] (.eff 17 [18] (.eff 19 [] (.seg 20 (.eff 21 [] .last)))))) (.eff 15 [9, 18] (.fork 10 [18] (.eff 16 [18] (.eff 17 [18] (.eff 19 [] (.seg 20 (.eff 21 [] .last))))) (.eff 16 [9, 18] (.eff 10 [18] (.eff 17 [18] (.eff 19 [] (.seg 20 (.eff 21 [] .last)))))))))) (.fork 10 [0, 1, 14] (.fork 8 [14] (.seg 18 (.eff 15 [18] (.eff 16 [18] (.eff 17 [18] (.eff 19 [] (.seg 20 (.eff 21 [] .last))))))) (.eff 15 [0, 1] (.fork 8 [] (.seg 18 (.eff 16 [18] (.eff 17 [18] (.eff 19 [] (.seg 20 (.eff 21 [] .last)))))) (.eff 16 [0, 1] (.eff 8 [] (.seg 18 (.eff 17 [18] (.eff 19 [] (.seg 20 (.eff 21 [] .last)))))))))) (.eff 15 [0, 1, 9] (.fork 8 [9] (.seg 18 (.fork 10 [18] (.eff 16 [18] (.eff 17 [18] (.eff 19 [] (.seg 20 (.eff 21 [] .last))))) (.eff 16 [9, 18] (.eff 10 [18] (.eff 17 [18] (.eff 19 [] (.seg 20 (.eff 21 [] .last)))))))) (.fork 10 [0, 1] (.fork 8 [] (.seg 18 (.eff 16 [18] (.eff 17 [18] (.eff 19 [] (.seg 20 (.eff 21 [] .last)))))) (.eff 16 [0, 1] (.eff 8 [] (.seg 18 (.eff 17 [18] (.eff 19 [] (.seg 20 (.eff 21 [] .last)))))))) (.eff 16 [0, 1, 9] (.fork 8 [9] (.seg 18 (.eff 10 [18] (.eff 17 [18] (.eff 19 [] (.seg 20 (.eff 21 [] .last)))))) (.eff 10 [0, 1] (.eff 8 [] (.seg 18 (.eff 17 [18] (.eff 19 [] (.seg 20 (.eff 21 [] .last)))))))))))))))))) (.fork 10 [0, 1, 2, 3, 5, 6, 11] (.fork 7 [0, 1, 11] (.fork 8 [11] (.seg 18 (.eff 12 [18] (.seg 14 (.eff 15 [18] (.eff 16 [18] (.eff 17 [18] (.eff 19 [] (.seg 20 (.eff 21 [] .last))))))))) (.eff 12 [0, 1] (.seg 14 (.fork 8 [14] (.seg 18 (.eff 15 [18] (.eff 16 [18] (.eff 17 [18] (.eff 19 [] (.seg 20 (.eff 21 [] .last))))))) (.eff 15 [0, 1] (.fork 8 [] (.seg 18 (.eff 16 [18] (.eff 17 [18] (.eff 19 [] (.seg 20 (.eff 21 [] .last)))))) (.eff 16 [0, 1] (.eff 8 [] (.seg 18 (.eff 17 [18] (.eff 19 [] (.seg 20 (.eff 21 [] .last))))))))))))) (.eff 12 [0, 1, 2, 3, 5, 6] (.seg 14 (.fork 7 [0, 1, 14] (.fork 8 [14] (.seg 18 (.eff 15 [18] (.eff 16 [18] (.eff 17 [18] (.eff 19 [] (.seg 20 (.eff 21 [] .last))))))) (.eff 15 [0, 1] (.fork 8 [] (.seg 18 (.eff 16 [18] (.eff 17 [18] (.eff 19 [] (.seg 20 (.eff 21 [] .last)))))) (.eff 16 [0, 1] (.eff 8 [] (.seg 18 (.eff 17 [18] (.eff 19 [] (.seg 20 (.eff 21 [] .last)))))))))) (.eff 15 [0, 1, 2, 3, 5, 6] (.fork 7 [0, 1] (.fork 8 [] (.seg 18 (.eff 16 [18] (.eff 17 [18] (.eff 19 [] (.seg 20 (.eff 21 [] .last)))))) (.eff 16 [0, 1] (.eff 8 [] (.seg 18 (.eff 17 [18] (.eff 19 [] (.seg 20 (.eff 21 [] .last)))))))) (.eff 16 [0, 1, 2, 3, 5, 6] (.eff 7 [0, 1] (.eff 8 [] (.seg 18 (.eff 17 [18] (.eff 19 [] (.seg 20 (.eff 21 [] .last)))))))))))))) (.eff 12 [0, 1, 2, 3, 5, 6, 9] (.seg 14 (.fork 7 [0, 1, 9, 14] (.fork 8 [9, 14] (.seg 18 (.fork 10 [14, 18] (.eff 15 [18] (.eff 16 [18] (.eff 17 [18] (.eff 19 [] (.seg 20 (.eff 21 [] .last)))))) (.eff 15 [9, 18] (.fork 10 [18] (.eff 16 [18] (.eff 17 [18] (.eff 19 [] (.seg 20 (.eff 21 [] .last))))) (.eff 16 [9, 18] (.eff 10 [18] (.eff 17 [18] (.eff 19 [] (.seg 20 (.eff 21 [] .last)))))))))) (.fork 10 [0, 1, 14] (.fork 8 [14] (.seg 18 (.eff 15 [18] (.eff 16 [18] (.eff 17 [18] (.eff 19 [] (.seg 20 (.eff 21 [] .last))))))) (.eff 15 [0, 1] (.fork 8 [] (.seg 18 (.eff 16 [18] (.eff 17 [18] (.eff 19 [] (.seg 20 (.eff 21 [] .last)))))) (.eff 16 [0, 1] (.eff 8 [] (.seg 18 (.eff 17 [18] (.eff 19 [] (.seg 20 (.eff 21 [] .last)))))))))) (.eff 15 [0, 1, 9] (.fork 8 [9] (.seg 18 (.fork 10 [18] (.eff 16 [18] (.eff 17 [18] (.eff 19 [] (.seg 20 (.eff 21 [] .last))))) (.eff 16 [9, 18] (.eff 10 [18] (.eff 17 [18] (.eff 19 [] (.seg 20 (.eff 21 [] .last)))))))) (.fork 10 [0, 1] (.fork 8 [] (.seg 18 (.eff 16 [18] (.eff 17 [18] (.eff 19 [] (.seg 20 (.eff 21 [] .last)))))) (.eff 16 [0, 1] (.eff 8 [] (.seg 18 (.eff 17 [18] (.eff 19 [] (.seg 20 (.eff 21 [] .last)))))))) (.eff 16 [0, 1, 9] (.fork 8 [9] (.seg 18 (.eff 10 [18] (.eff 17 [18] (.eff 19 [] (.seg 20 (.eff 21 [] .last)))))) (.eff 10 [0, 1] (.eff 8 [] (.seg 18 (.eff 17 [18] (.eff 19 [] (.seg 20 (.eff 21 [] .last)))))))))))))) (.fork 10 [0, 1, 2, 3, 5, 6, 14] (.fork 7 [0, 1, 14] (.fork 8 [14] (.seg 18 (.eff 15 [18] (.eff 16 [18] (.eff 17 [18] (.eff 19 [] (.seg 20 (.eff 21 [] .last))))))) (.eff 15 [0, 1] (.fork 8 [] (.seg 18 (.eff 16 [18] (.eff 17 [18] (.eff 19 [] (.seg 20 (.eff 21 [] .last)))))) (.eff 16 [0, 1] (.eff 8 [] (.seg 18 (.eff 17 [18] (.eff 19 [] (.seg 20 (.eff 21 [] .last)))))))))) (.eff 15 [0, 1, 2, 3, 5, 6] (.fork 7 [0, 1] (.fork 8 [] (.seg 18 (.eff 16 [18] (.eff 17 [18] (.eff 19 [] (.seg 20 (.eff 21 [] .last)))))) (.eff 16 [0, 1] (.eff 8 [] (.seg 18 (.eff 17 [18] (.eff 19 [] (.seg 20 (.eff 21 [] .last)))))))) (.eff 16 [0, 1, 2, 3, 5, 6] (.eff 7 [0, 1] (.eff 8 [] (.seg 18 (.eff 17 [18] (.eff 19 [] (.seg 20 (.eff 21 [] .last))))))))))) (.eff 15 [0, 1, 2, 3, 5, 6, 9] (.fork 7 [0, 1, 9] (.fork 8 [9] (.seg 18 (.fork 10 [18] (.eff 16 [18] (.eff 17 [18] (.eff 19 [] (.seg 20 (.eff 21 [] .last))))) (.eff 16 [9, 18] (.eff 10 [18] (.eff 17 [18] (.eff 19 [] (.seg 20 (.eff 21 [] .last)))))))) (.fork 10 [0, 1] (.fork 8 [] (.seg 18 (.eff 16 [18] (.eff 17 [18] (.eff 19 [] (.seg 20 (.eff 21 [] .last)))))) (.eff 16 [0, 1] (.eff 8 [] (.seg 18 (.eff 17 [18] (.eff 19 [] (.seg 20 (.eff 21 [] .last)))))))) (.eff 16 [0, 1, 9] (.fork 8 [9] (.seg 18 (.eff 10 [18] (.eff 17 [18] (.eff 19 [] (.seg 20 (.eff 21 [] .last)))))) (.eff 10 [0, 1] (.eff 8 [] (.seg 18 (.eff 17 [18] (.eff 19 [] (.seg 20 (.eff 21 [] .last))))))))))) (.fork 10 [0, 1, 2, 3, 5, 6] (.fork 7 [0, 1] (.fork 8 [] (.seg 18 (.eff 16 [18] (.eff 17 [18] (.eff 19 [] (.seg 20 (.eff 21 [] .last)))))) (.eff 16 [0, 1] (.eff 8 [] (.seg 18 (.eff 17 [18] (.eff 19 [] (.seg 20 (.eff 21 [] .last)))))))) (.eff 16 [0, 1, 2, 3, 5, 6] (.eff 7 [0, 1] (.eff 8 [] (.seg 18 (.eff 17 [18] (.eff 19 [] (.seg 20 (.eff 21 [] .last))))))))) (.eff 16 [0, 1, 2, 3, 5, 6, 9] (.fork 7 [0, 1, 9] (.fork 8 [9] (.seg 18 (.eff 10 [18] (.eff 17 [18] (.eff 19 [] (.seg 20 (.eff 21 [] .last)))))) (.eff 10 [0, 1] (.eff 8 [] (.seg 18 (.eff 17 [18] (.eff 19 [] (.seg 20 (.eff 21 [] .last)))))))) (.eff 10 [0, 1, 2, 3, 5, 6] (.eff 7 [0, 1] (.eff 8 [] (.seg 18 (.eff 17 [18] (.eff 19 [] (.seg 20 (.eff 21 [] .last))))))))))))))))))))))))))))))]) (n0 := 143) (α := {x : Nat × Nat // x.1 ≤ s.cells.length ∧ 6 ≤ x.2}) (fun x => [(70, dI x.1.1)]) (fun H _ => H) (fun x => x.1.2) (fun x => s.cells.length - x.1.1) ⟨(0, 6), by simp⟩ rfl (by kernel_rfl) (Wk.sub (by simp)) ?_
      rintro ⟨⟨k, n1⟩, hk, hn1⟩
      simp only at hk hn1
      have e0 : ¬ 0 = n1 := by omega
      have e1 : ¬ 1 = n1 := by omega
      have e2 : ¬ 2 = n1 := by omega
      have e3 : ¬ 3 = n1 := by omega
      have e4 : ¬ 4 = n1 := by omega
      have e5 : ¬ 5 = n1 := by omega
      have f0 : ¬ n1 = 0 := by omega
      have f1 : ¬ n1 = 1 := by omega
      have f2 : ¬ n1 = 2 := by omega
      have f3 : ¬ n1 = 3 := by omega
      have f4 : ¬ n1 = 4 := by omega
      have f5 : ¬ n1 = 5 := by omega
      by_cases h1 : k < s.cells.length
      · obtain ⟨c', y1, y2, y3⟩ := hcell k h1
        obtain ⟨y4, y5⟩ := List.getElem?_eq_some_iff.1 y1
        have hw : IntKind.i64.wrap ((k : Int) + 1) = (k : Int) + 1 := wrap_id (by omega) (by omega)
        rcases y3 with y3 | ⟨y3, y6⟩
        · simp [h1, e0, e1, e2, e3, e4, e5, f0, f1, f2, f3, f4, f5, y4, y5, y2, y3]
          exact ⟨k + 1, by omega, n1 + 1, ⟨by omega, by omega⟩, Wk.sub2 (by simp [hw]) rfl (by (repeat rw [Hp.set_ne _ _ (by omega)]); rfl)⟩
        · simp [h1, e0, e1, e2, e3, e4, e5, f0, f1, f2, f3, f4, f5, y4, y5, y2, y3, y6]
          exact ⟨k + 1, by omega, n1 + 1, ⟨by omega, by omega⟩, Wk.sub2 (by simp [hw]) rfl (by (repeat rw [Hp.set_ne _ _ (by omega)]); rfl)⟩
      · obtain rfl : k = s.cells.length := by omega
        simp
        intro _
        refine loopH_ok (ks := [0,1,2,3,4,5,7,8,9,11,12,13,14,15,16,31,60,68,69,70,71,108,112,113,114,118]) (pl := [(6, [0,0,0,0,13,31], (.seg 0 (.seg 1 (.fork 2 [0, 1] (.eff 3 [0, 1] (.eff 4 [1] (.eff 5 [] .last))) (.eff 3 [0, 1] (.eff 2 [0, 1] (.eff 4 [1] (.eff 5 [] .last)))))))), (12, [0,1,0,4,0,28,60,124,255,511,1023,2047,1023,5119,1023,29695,62463,127999,262143,524287,1048575,2097151,4194303,8388607,16777215,33554431,16777215,134217727,268435455,536870911,1073741823,2147483647,4294967295,8589934591], (.seg 0 (.seg 1 (.seg 2 (.seg 3 (.seg 4 (.seg 5 (.seg 6 (.seg 7 (.seg 8 (.seg 9 (.seg 10 (.seg 11 (.seg 12 (.seg 13 (.seg 14 (.seg 15 (.seg 16 (.seg 17 (.seg 18 (.seg 19 (.seg 20 (.seg 21 (.seg 22 (.seg 23 (.seg 24 (.seg 25 (.seg 26 (.seg 27 (.seg 28 (.seg 29 (.seg 30 (.seg 31 (.seg 32 (.seg 33 .last))))))))))))))))))))))))))))))))))), (19, [0,1,0,4,0,28,60,124,255,0,512,0,2048,0,14336,30720,63488,131071,511,524287,1048575,2097151], (.seg 0 (.seg 1 (.seg 2 (.seg 3 (.seg 4 (.seg 5 (.seg 6 (.seg 9 (.seg 11 (.seg 13 (.fork 7 [0, 1, 9, 11] (.fork 8 [9, 11] (.seg 18 (.fork 10 [11, 18] (.eff 12 [18] (.seg 14 (.eff 15 [18] (.eff 16 [18] (.eff 17 [18] (.eff 19 [] (.seg 20 (.eff 21 [] .last)))))))) (.eff 12 [9, 18] (.seg 14 (.fork 10 [14, 18] (.eff 15 [18] (.eff 16 [18] (.eff 17 [18] (.eff 19 [] (.seg 20 (.eff 21 [] .last)))))) (.eff 15 [9, 18] (.fork 10 [18] (.eff 16 [18] (.eff 17 [18] (.eff 19 [] (.seg 20 (.eff 21 [] .last))))) (.eff 16 [9, 18] (.eff 10 [18] (.eff 17 [18] (.eff 19 [] (.seg 20 (.eff 21 [] .last))))))))))))) (.fork 10 [0, 1, 11] (.fork 8 [11] (.seg 18 (.eff 12 [18] (.seg 14 (.eff 15 [18] (.eff 16 [18] (.eff 17 [18] (.eff 19 [] (.seg 20 (.eff 21 [] .last))))))))) (.eff 12 [0, 1] (.seg 14 (.fork 8 [14] (.seg 18 (.eff 15 [18] (.eff 16 [18] (.eff 17 [18] (.eff 19 [] (.seg 20 (.eff 21 [] .last))))))) (.eff 15 [0, 1] (.fork 8 [] (.seg 18 (.eff 16 [18] (.eff 17 [18] (.eff 19 [] (.seg 20 (.eff 21 [] .last)))))) (.eff 16 [0, 1] (.eff 8 [] (.seg 18 (.eff 17 [18] (.eff 19 [] (.seg 20 (.eff 21 [] .last))))))))))))) (.eff 12 [0, 1, 9] (.seg 14 (.fork 8 [9, 14] (.seg 18 (.fork 10 [14, 18] (.eff 15 [18] (.eff 16 [18] (.eff 17 [18] (.eff 19 [] (.seg 20 (.eff 21 [] .last)))))) (.eff 15 [9, 18] (.fork 10 [18] (.eff 16 [18] (.eff 17 [18] (.eff 19 [] (.seg 20 (.eff 21 [] .last))))) (.eff 16 [9, 18] (.eff 10 [18] (.eff 17 [18] (.eff 19 [] (.seg 20 (.eff 21 [] .last)))))))))) (.fork 10 [0, 1, 14] (.fork 8 [14] (.seg 18 (.eff 15 [18] (.eff 16 [18] (.eff 17 [18] (.eff 19 [] (.seg 20 (.eff 21 [] .last))))))) (.eff 15 [0, 1] (.fork 8 [] (.seg 18 (.eff 16 [18] (.eff 17 [18] (.eff 19 [] (.seg 20 (.eff 21 [] .last)))))) (.eff 16 [0, 1] (.eff 8 [] (.seg 18 (.eff 17 [18] (.eff 19 [] (.seg 20 (.eff 21 [] .last)))))))))) (.eff 15 [0, 1, 9] (.fork 8 [9] (.seg 18 (.fork 10 [18] (.eff 16 [18] (.eff 17 [18] (.eff 19 [] (.seg 20 (.eff 21 [] .last))))) (.eff 16 [9, 18] (.eff 10 [18] (.eff 17 [18] (.eff 19 [] (.seg 20 (.eff 21 [] .last)))))))) (.fork 10 [0, 1] (.fork 8 [] (.seg 18 (.eff 16 [18] (.eff 17 [18] (.eff 19 [] (.seg 20 (.eff 21 [] .last)))))) (.eff 16 [0, 1] (.eff 8 [] (.seg 18 (.eff 17 [18] (.eff 19 [] (.seg 20 (.eff 21 [] .last)))))))) (.eff 16 [0, 1, 9] (.fork 8 [9] (.seg 18 (.eff 10 [18] (.eff 17 [18] (.eff 19 [] (.seg 20 (.eff 21 [] .last)))))) (.eff 10 [0, 1] (.eff 8 [] (.seg 18 (.eff 17 [18] (.eff 19 [] (.seg 20 (.eff 21 [] .last)))))))))))))))))) (.fork 10 [0, 1, 2, 3, 5, 6, 11] (.fork 7 [0, 1, 11] (.fork 8 [11] (.seg 18 (.eff 12 [18] (.seg 14 (.eff 15 [18] (.eff 16 [18] (.eff 17 [18] (.eff 19 [] (.seg 20 (.eff 21 [] .last))))))))) (.eff 12 [0, 1] (.seg 14 (.fork 8 [14] (.seg 18 (.eff 15 [18] (.eff 16 [18] (.eff 17 [18] (.eff 19 [] (.seg 20 (.eff 21 [] .last))))))) (.eff 15 [0, 1] (.fork 8 [] (.seg 18 (.eff 16 [18] (.eff 17 [18] (.eff 19 [] (.seg 20 (.eff 21 [] .last)))))) (.eff 16 [0, 1] (.eff 8 [] (.seg 18 (.eff 17 [18] (.eff 19 [] (.seg 20 (.eff 21 [] .last))))))))))))) (.eff 12 [0, 1, 2, 3, 5, 6] (.seg 14 (.fork 7 [0, 1, 14] (.fork 8 [14] (.seg 18 (.eff 15 [18] (.eff 16 [18] (.eff 17 [18] (.eff 19 [] (.seg 20 (.eff 21 [] .last))))))) (.eff 15 [0, 1] (.fork 8 [] (.seg 18 (.eff 16 [18] (.eff 17 [18] (.eff 19 [] (.seg 20 (.eff 21 [] .last)))))) (.eff 16 [0, 1] (.eff 8 [] (.seg 18 (.eff 17 [18] (.eff 19 [] (.seg 20 (.eff 21 [] .last)))))))))) (.eff 15 [0, 1, 2, 3, 5, 6] (.fork 7 [0, 1] (.fork 8 [] (.seg 18 (.eff 16 [18] (.eff 17 [18] (.eff 19 [] (.seg 20 (.eff 21 [] .last)))))) (.eff 16 [0, 1] (.eff 8 [] (.seg 18 (.eff 17 [18] (.eff 19 [] (.seg 20 (.eff 21 [] .last)))))))) (.eff 16 [0, 1, 2, 3, 5, 6] (.eff 7 [0, 1] (.eff 8 [] (.seg 18 (.eff 17 [18] (.eff 19 [] (.seg 20 (.eff 21 [] .last)))))))))))))) (.eff 12 [0, 1, 2, 3, 5, 6, 9] (.seg 14 (.fork 7 [0, 1, 9, 14] (.fork 8 [9, 14] (.seg 18 (.fork 10 [14, 18] (.eff 15 [18] (.eff 16 [18] (.eff 17 [18] (.eff 19 [] (.seg 20 (.eff 21 [] .last)))))) (.eff 15 [9, 18] (.fork 10 [18] (.eff 16 [18] (.eff 17 [18] (.eff 19 [] (.seg 20 (.eff 21 [] .last))))) (.eff 16 [9, 18] (.eff 10 [18] (.eff 17 [18] (.eff 19 [] (.seg 20 (.eff 21 [] .last)))))))))) (.fork 10 [0, 1, 14] (.fork 8 [14] (.seg 18 (.eff 15 [18] (.eff 16 [18] (.eff 17 [18] (.eff 19 [] (.seg 20 (.eff 21 [] .last))))))) (.eff 15 [0, 1] (.fork 8 [] (.seg 18 (.eff 16 [18] (.eff 17 [18] (.eff 19 [] (.seg 20 (.eff 21 [] .last)))))) (.eff 16 [0, 1] (.eff 8 [] (.seg 18 (.eff 17 [18] (.eff 19 [] (.seg 20 (.eff 21 [] .last)))))))))) (.eff 15 [0, 1, 9] (.fork 8 [9] (.seg 18 (.fork 10 [18] (.eff 16 [18] (.eff 17 [18] (.eff 19 [] (.seg 20 (.eff 21 [] .last))))) (.eff 16 [9, 18] (.eff 10 [18] (.eff 17 [18] (.eff 19 [] (.seg 20 (.eff 21 [] .last)))))))) (.fork 10 [0, 1] (.fork 8 [] (.seg 18 (.eff 16 [18] (.eff 17 [18] (.eff 19 [] (.seg 20 (.eff 21 [] .last)))))) (.eff 16 [0, 1] (.eff 8 [] (.seg 18 (.eff 17 [18] (.eff 19 [] (.seg 20 (.eff 21 [] .last)))))))) (.eff 16 [0, 1, 9] (.fork 8 [9] (.seg 18 (.eff 10 [18] (.eff 17 [18] (.eff 19 [] (.seg 20 (.eff 21 [] .last)))))) (.eff 10 [0, 1] (.eff 8 [] (.seg 18 (.eff 17 [18] (.eff 19 [] (.seg 20 (.eff 21 [] .last)))))))))))))) (.fork 10 [0, 1, 2, 3, 5, 6, 14] (.fork 7 [0, 1, 14] (.fork 8 [14] (.seg 18 (.eff 15 [18] (.eff 16 [18] (.eff 17 [18] (.eff 19 [] (.seg 20 (.eff 21 [] .last))))))) (.eff 15 [0, 1] (.fork 8 [] (.seg 18 (.eff 16 [18] (.eff 17 [18] (.eff 19 [] (.seg 20 (.eff 21 [] .last)))))) (.eff 16 [0, 1] (.eff 8 [] (.seg 18 (.eff 17 [18] (.eff 19 [] (.seg 20 (.eff 21 [] .last)))))))))) (.eff 15 [0, 1, 2, 3, 5, 6] (.fork 7 [0, 1] (.fork 8 [] (.seg 18 (.eff 16 [18] (.eff 17 [18] (.eff 19 [] (.seg 20 (.eff 21 [] .last)))))) (.eff 16 [0, 1] (.eff 8 [] (.seg 18 (.eff 17 [18] (.eff 19 [] (.seg 20 (.eff 21 [] .last)))))))) (.eff 16 [0, 1, 2, 3, 5, 6] (.eff 7 [0, 1] (.eff 8 [] (.seg 18 (.eff 17 [18] (.eff 19 [] (.seg 20 (.eff 21 [] .last))))))))))) (.eff 15 [0, 1, 2, 3, 5, 6, 9] (.fork 7 [0, 1, 9] (.fork 8 [9] (.seg 18 (.fork 10 [18] (.eff 16 [18] (.eff 17 [18] (.eff 19 [] (.seg 20 (.eff 21 [] .last))))) (.eff 16 [9, 18] (.eff 10 [18] (.eff 17 [18] (.eff 19 [] (.seg 20 (.eff 21 [] .last)))))))) (.fork 10 [0, 1] (.fork 8 [] (.seg 18 (.eff 16 [18] (.eff 17 [18] (.eff 19 [] (.seg 20 (.eff 21 [] .last)))))) (.eff 16 [0, 1] (.eff 8 [] (.seg 18 (.eff 17 [18] (.eff 19 [] (.seg 20 (.eff 21 [] .last)))))))) (.eff 16 [0, 1, 9] (.fork 8 [9] (.seg 18 (.eff 10 [18] (.eff 17 [18] (.eff 19 [] (.seg 20 (.eff 21 [] .last)))))) (.eff 10 [0, 1] (.eff 8 [] (.seg 18 (.eff 17 [18] (.eff 19 [] (.seg 20 (.eff 21 [] .last))))))))))) (.fork 10 [0, 1, 2, 3, 5, 6] (.fork 7 [0, 1] (.fork 8 [] (.seg 18 (.eff 16 [18] (.eff 17 [18] (.eff 19 [] (.seg 20 (.eff 21 [] .last)))))) (.eff 16 [0, 1] (.eff 8 [] (.seg 18 (.eff 17 [18] (.eff 19 [] (.seg 20 (.eff 21 [] .last)))))))) (.eff 16 [0, 1, 2, 3, 5, 6] (.eff 7 [0, 1] (.eff 8 [] (.seg 18 (.eff 17 [18] (.eff 19 [] (.seg 20 (.eff 21 [] .last))))))))) (.eff 16 [0, 1, 2, 3, 5, 6, 9] (.fork 7 [0, 1, 9] (.fork 8 [9] (.seg 18 (.eff 10 [18] (.eff 17 [18] (.eff 19 [] (.seg 20 (.eff 21 [] .last)))))) (.eff 10 [0, 1] (.eff 8 [] (.seg 18 (.eff 17 [18] (.eff 19 [] (.seg 20 (.eff 21 [] .last)))))))) (.eff 10 [0, 1, 2, 3, 5, 6] (.eff 7 [0, 1] (.eff 8 [] (.seg 18 (.eff 17 [18] (.eff 19 [] (.seg 20 (.eff 21 [] .last))))))))))))))))))))))))))))))]) (n0 := 143) (α := {x : StyS // StyI s 5 4 x}) (fun x => [(113, dI x.1.k)]) (fun _ x => styH s (throwS s t v) 5 4 x.1) (fun x => x.1.nx) (fun x => s.threads.length - x.1.k) ⟨⟨0, [], n1, n1 + 1, n1 + 2⟩, by constructor <;> (try simp) <;> omega⟩ rfl (by kernel_rfl) ?_ ?_
        · refine (Wk.ownC 56 5 (m := 5) (t := .c 32) (k := 8) (R := [[.d .emp, .d (.sl true (s.shapes.map eShape)), .d (.sl true (s.texts.map eStr)), .d .emp, .d (.sl true (s.ends.map eEnd)), .d (.sl true (s.said.map eVal)), .d (eI s.asked), .d (eI s.steps)]]) (row := [.d .emp, .d (.sl true (s.shapes.map eShape)), .d (.sl true (s.texts.map eStr)), .d .emp, .d (.sl true (s.ends.map eEnd)), .d (.sl true (s.said.map eVal)), .d (eI s.asked), .d (eI s.steps)]) (i := 0) (j := 3) ?_ rfl rfl).trans ((Wk.ownC 56 5 (m := 4) (t := .c 32) (k := 8) (R := [[.d .emp, .d (.sl true ((throwS s t v).shapes.map eShape)), .d (.sl true ((throwS s t v).texts.map eStr)), .d .emp, .d (.sl true ((throwS s t v).ends.map eEnd)), .d (.sl true ((throwS s t v).said.map eVal)), .d (eI (throwS s t v).asked), .d (eI (throwS s t v).steps)]]) (row := [.d .emp, .d (.sl true ((throwS s t v).shapes.map eShape)), .d (.sl true ((throwS s t v).texts.map eStr)), .d .emp, .d (.sl true ((throwS s t v).ends.map eEnd)), .d (.sl true ((throwS s t v).said.map eVal)), .d (eI (throwS s t v).asked), .d (eI (throwS s t v).steps)]) (i := 0) (j := 3) ?_ rfl rfl).trans ((Wk.sub (by simp)).trans (Wk.heap fun i y hy => ?_)))
          · repeat (first | rw [Hp.set_same] | rw [Hp.set_ne _ _ (by omega)])
          · repeat (first | rw [Hp.set_same] | rw [Hp.set_ne _ _ (by omega)])
          · unfold styH at hy
            simp only at hy
            by_cases i1 : i = n1 + 1
            · subst i1; (repeat (first | rw [Hp.set_same] at hy | rw [Hp.set_ne _ _ (by omega)] at hy)); (repeat (first | rw [Hp.set_same] | rw [Hp.set_ne _ _ (by omega)])); simpa using hy
            by_cases i2 : i = n1
            · subst i2; (repeat (first | rw [Hp.set_same] at hy | rw [Hp.set_ne _ _ (by omega)] at hy)); (repeat (first | rw [Hp.set_same] | rw [Hp.set_ne _ _ (by omega)])); simpa using hy
            by_cases i3 : i = 5
            · subst i3; (repeat (first | rw [Hp.set_same] at hy | rw [Hp.set_ne _ _ (by omega)] at hy)); (repeat (first | rw [Hp.set_same] | rw [Hp.set_ne _ _ (by omega)])); simpa using hy
            by_cases i4 : i = 4
            · subst i4; (repeat (first | rw [Hp.set_same] at hy | rw [Hp.set_ne _ _ (by omega)] at hy)); (repeat (first | rw [Hp.set_same] | rw [Hp.set_ne _ _ (by omega)])); simpa using hy
            by_cases i5 : i = 3
            · subst i5; (repeat (first | rw [Hp.set_same] at hy | rw [Hp.set_ne _ _ (by omega)] at hy)); (repeat (first | rw [Hp.set_same] | rw [Hp.set_ne _ _ (by omega)])); simpa using hy
            by_cases i6 : i = 1
            · subst i6; (repeat (first | rw [Hp.set_same] at hy | rw [Hp.set_ne _ _ (by omega)] at hy)); (repeat (first | rw [Hp.set_same] | rw [Hp.set_ne _ _ (by omega)])); simpa using hy
            (repeat (first | rw [Hp.set_same] at hy | rw [Hp.set_ne _ _ (by omega)] at hy))
            cases hy
        · rintro ⟨⟨k, L, p1, p2, n2⟩, hI⟩
          obtain ⟨hk, hL, v1, v2, v12, l1, l2⟩ := hI
          simp only at hk hL v1 v2 v12 l1 l2
          obtain ⟨Hc, hHc⟩ : ∃ Hc, Hc = styH s (throwS s t v) 5 4 ⟨k, L, p1, p2, n2⟩ := ⟨_, rfl⟩
          have a1 : Hc 1 = some ⟨.c 32, 8, [(eState s).map .d]⟩ := by rw [hHc]; unfold styH; simp only; (repeat (first | rw [Hp.set_same] | rw [Hp.set_ne _ _ (by omega)]))
          have a3 : Hc 3 = some ⟨.c 32, 8, [(eState (throwS s t v)).map .d]⟩ := by rw [hHc]; unfold styH; simp only; (repeat (first | rw [Hp.set_same] | rw [Hp.set_ne _ _ (by omega)]))
          have aA : Hc 5 = some ⟨.c 32, 8, [[.d .emp, .d (.sl true (s.shapes.map eShape)), .d (.sl true (s.texts.map eStr)), .own p1 5 L.length, .d (.sl true (s.ends.map eEnd)), .d (.sl true (s.said.map eVal)), .d (eI s.asked), .d (eI s.steps)]]⟩ := by rw [hHc]; unfold styH; simp only; (repeat (first | rw [Hp.set_same] | rw [Hp.set_ne _ _ (by omega)]))
          have aB : Hc 4 = some ⟨.c 32, 8, [[.d .emp, .d (.sl true ((throwS s t v).shapes.map eShape)), .d (.sl true ((throwS s t v).texts.map eStr)), .own p2 5 L.length, .d (.sl true ((throwS s t v).ends.map eEnd)), .d (.sl true ((throwS s t v).said.map eVal)), .d (eI (throwS s t v).asked), .d (eI (throwS s t v).steps)]]⟩ := by rw [hHc]; unfold styH; simp only; (repeat (first | rw [Hp.set_same] | rw [Hp.set_ne _ _ (by omega)]))
          have aP : Hc p1 = some ⟨.c 56, 5, L.map fun t => (eThread t).map .d⟩ := by rw [hHc]; unfold styH; simp only; (repeat (first | rw [Hp.set_same] | rw [Hp.set_ne _ _ (by omega)]))
          have aQ : Hc p2 = some ⟨.c 56, 5, L.map fun t => (eThread t).map .d⟩ := by rw [hHc]; unfold styH; simp only; (repeat (first | rw [Hp.set_same] | rw [Hp.set_ne _ _ (by omega)]))
          simp only
          rw [← hHc]
          have z0 : ¬ 1 = n2 := by omega
          have z1 : ¬ n2 = 1 := by omega
          have z2 : ¬ 1 = n2 + 1 := by omega
          have z3 : ¬ n2 + 1 = 1 := by omega
          have z4 : ¬ 1 = n2 + 2 := by omega
          have z5 : ¬ n2 + 2 = 1 := by omega
          have z6 : ¬ 1 = n2 + 3 := by omega
          have z7 : ¬ n2 + 3 = 1 := by omega
          have z8 : ¬ 1 = n2 + 4 := by omega
          have z9 : ¬ n2 + 4 = 1 := by omega
          have z10 : ¬ 3 = n2 := by omega
          have z11 : ¬ n2 = 3 := by omega
          have z12 : ¬ 3 = n2 + 1 := by omega
          have z13 : ¬ n2 + 1 = 3 := by omega
          have z14 : ¬ 3 = n2 + 2 := by omega
          have z15 : ¬ n2 + 2 = 3 := by omega
          have z16 : ¬ 3 = n2 + 3 := by omega
          have z17 : ¬ n2 + 3 = 3 := by omega
          have z18 : ¬ 3 = n2 + 4 := by omega
          have z19 : ¬ n2 + 4 = 3 := by omega
          have z20 : ¬ 4 = n2 := by omega
          have z21 : ¬ n2 = 4 := by omega
          have z22 : ¬ 4 = n2 + 1 := by omega
          have z23 : ¬ n2 + 1 = 4 := by omega
          have z24 : ¬ 4 = n2 + 2 := by omega
          have z25 : ¬ n2 + 2 = 4 := by omega
          have z26 : ¬ 4 = n2 + 3 := by omega
          have z27 : ¬ n2 + 3 = 4 := by omega
          have z28 : ¬ 4 = n2 + 4 := by omega
          have z29 : ¬ n2 + 4 = 4 := by omega
          have z30 : ¬ 5 = n2 := by omega
          have z31 : ¬ n2 = 5 := by omega
          have z32 : ¬ 5 = n2 + 1 := by omega
          have z33 : ¬ n2 + 1 = 5 := by omega
          have z34 : ¬ 5 = n2 + 2 := by omega
          have z35 : ¬ n2 + 2 = 5 := by omega
          have z36 : ¬ 5 = n2 + 3 := by omega
          have z37 : ¬ n2 + 3 = 5 := by omega
          have z38 : ¬ 5 = n2 + 4 := by omega
          have z39 : ¬ n2 + 4 = 5 := by omega
          have z40 : ¬ p1 = n2 := by omega
          have z41 : ¬ n2 = p1 := by omega
          have z42 : ¬ p1 = n2 + 1 := by omega
          have z43 : ¬ n2 + 1 = p1 := by omega
          have z44 : ¬ p1 = n2 + 2 := by omega
          have z45 : ¬ n2 + 2 = p1 := by omega
          have z46 : ¬ p1 = n2 + 3 := by omega
          have z47 : ¬ n2 + 3 = p1 := by omega
          have z48 : ¬ p1 = n2 + 4 := by omega
          have z49 : ¬ n2 + 4 = p1 := by omega
          have z50 : ¬ p2 = n2 := by omega
          have z51 : ¬ n2 = p2 := by omega
          have z52 : ¬ p2 = n2 + 1 := by omega
          have z53 : ¬ n2 + 1 = p2 := by omega
          have z54 : ¬ p2 = n2 + 2 := by omega
          have z55 : ¬ n2 + 2 = p2 := by omega
          have z56 : ¬ p2 = n2 + 3 := by omega
          have z57 : ¬ n2 + 3 = p2 := by omega
          have z58 : ¬ p2 = n2 + 4 := by omega
          have z59 : ¬ n2 + 4 = p2 := by omega
          have z60 : ¬ 1 = p1 := by omega
          have z61 : ¬ p1 = 1 := by omega
          have z62 : ¬ 1 = p2 := by omega
          have z63 : ¬ p2 = 1 := by omega
          have z64 : ¬ 3 = p1 := by omega
          have z65 : ¬ p1 = 3 := by omega
          have z66 : ¬ 3 = p2 := by omega
          have z67 : ¬ p2 = 3 := by omega
          have z68 : ¬ 4 = p1 := by omega
          have z69 : ¬ p1 = 4 := by omega
          have z70 : ¬ 4 = p2 := by omega
          have z71 : ¬ p2 = 4 := by omega
          have z72 : ¬ 5 = p1 := by omega
          have z73 : ¬ p1 = 5 := by omega
          have z74 : ¬ 5 = p2 := by omega
          have z75 : ¬ p2 = 5 := by omega
          have z76 : ¬ p1 = p2 := by omega
          have z77 : ¬ p2 = p1 := by omega
          by_cases h2 : k < s.threads.length
          · have hw : IntKind.i64.wrap ((k : Int) + 1) = (k : Int) + 1 := wrap_id (by omega) (by omega)
            by_cases h3 : k = t
            · subst h3
              simp [h2]
              exact ⟨⟨k + 1, L, p1, p2, n2⟩, by simp only; omega, ⟨by simp only; omega, by simp only; omega, v1, v2, v12, l1, l2⟩, Wk.subH (by simp [hw]) hHc⟩
            · have hz5 := (sized_of q1).threads
              have hthr : (throwS s t v).threads[k]? = some s.threads[k] := by
                simp only [throwS, doneS]
                rw [List.getElem?_set_ne (fun e => h3 e.symm), List.getElem?_eq_getElem h2]
              obtain ⟨y1, y2⟩ := List.getElem?_eq_some_iff.1 hthr
              have h3' : ¬ (k : Int) = t := by omega
              simp [h2, h3, h3', y1, y2, a1, a3, aA, aB, aP, aQ, hTl, Nat.add_assoc, z0, z1, z2, z3, z4, z5, z6, z7, z8, z9, z10, z11, z12, z13, z14, z15, z16, z17, z18, z19, z20, z21, z22, z23, z24, z25, z26, z27, z28, z29, z30, z31, z32, z33, z34, z35, z36, z37, z38, z39, z40, z41, z42, z43, z44, z45, z46, z47, z48, z49, z50, z51, z52, z53, z54, z55, z56, z57, z58, z59, z60, z61, z62, z63, z64, z65, z66, z67, z68, z69, z70, z71, z72, z73, z74, z75, z76, z77]
              repeat' (with_reducible refine And.intro ?_ ?_)
              all_goals first
                | (intro m b em hm
                   subst em
                   simp [aP, aQ, z0, z1, z2, z3, z4, z5, z6, z7, z8, z9, z10, z11, z12, z13, z14, z15, z16, z17, z18, z19, z20, z21, z22, z23, z24, z25, z26, z27, z28, z29, z30, z31, z32, z33, z34, z35, z36, z37, z38, z39, z40, z41, z42, z43, z44, z45, z46, z47, z48, z49, z50, z51, z52, z53, z54, z55, z56, z57, z58, z59, z60, z61, z62, z63, z64, z65, z66, z67, z68, z69, z70, z71, z72, z73, z74, z75, z76, z77] at hm
                   subst hm
                   exact ⟨rfl, rfl⟩)
                | (left; omega)
                | (refine ⟨⟨k + 1, L ++ [s.threads[k]], n2 + 1, n2 + 3, n2 + 4⟩, ?_, ?_, Wk.trans (Wk.sub ?_) (Wk.heap (styH_wk ?_ ?_ ?_ ?_ ?_ ?_))⟩
                   · simp only; omega
                   · exact ⟨by simp only; omega, by simp; omega, by simp only; omega, by simp only; omega, by simp only; omega, by simp only; omega, by simp only; omega⟩
                   · simp [hw]
                   all_goals (repeat (first | rw [Hp.set_same] | rw [Hp.set_ne _ _ (by omega)]))
                   · exact a1
                   · exact a3
                   all_goals (simp; done))
                | (refine ⟨⟨k + 1, L ++ [s.threads[k]], n2 + 2, n2 + 3, n2 + 4⟩, ?_, ?_, Wk.trans (Wk.sub ?_) (Wk.heap (styH_wk ?_ ?_ ?_ ?_ ?_ ?_))⟩
                   · simp only; omega
                   · exact ⟨by simp only; omega, by simp; omega, by simp only; omega, by simp only; omega, by simp only; omega, by simp only; omega, by simp only; omega⟩
                   · simp [hw]
                   all_goals (repeat (first | rw [Hp.set_same] | rw [Hp.set_ne _ _ (by omega)]))
                   · exact a1
                   · exact a3
                   all_goals (simp; done))
          · obtain rfl : k = s.threads.length := by omega
            simp [aA, aB]
            refine ⟨⟨143, [(140, aD (eState ⟨[], s.shapes, s.texts, L, s.ends, s.said, s.asked, s.steps⟩)), (141, aD (eState ⟨[], (throwS s t v).shapes, (throwS s t v).texts, L, (throwS s t v).ends, (throwS s t v).said, (throwS s t v).asked, (throwS s t v).steps⟩))], Hp.none, n2⟩, rfl,
              Wk.deepT (fun q => q = p1 ∨ q = p2) (tm1 := [(140, .agg [.d .emp, .d (.sl true (s.shapes.map eShape)), .d (.sl true (s.texts.map eStr)), .own p1 5 L.length, .d (.sl true (s.ends.map eEnd)), .d (.sl true (s.said.map eVal)), .d (eI s.asked), .d (eI s.steps)]), (141, .agg [.d .emp, .d (.sl true ((throwS s t v).shapes.map eShape)), .d (.sl true ((throwS s t v).texts.map eStr)), .own p2 5 L.length, .d (.sl true ((throwS s t v).ends.map eEnd)), .d (.sl true ((throwS s t v).said.map eVal)), .d (eI (throwS s t v).asked), .d (eI (throwS s t v).steps)])]) rfl
                ⟨rfl, ⟨.inr ⟨_, rfl, .emp⟩, .inl rfl, .inl rfl, .inr ⟨_, rfl, Shw.row (.inl rfl) aP rfl (by simp) (by simp) (by simp) (by simp)⟩, .inl rfl, .inl rfl, .inl rfl, .inl rfl, trivial⟩,
                 rfl, ⟨.inr ⟨_, rfl, .emp⟩, .inl rfl, .inl rfl, .inr ⟨_, rfl, Shw.row (.inr rfl) aQ rfl (by simp) (by simp) (by simp) (by simp)⟩, .inl rfl, .inl rfl, .inl rfl, .inl rfl, trivial⟩, trivial⟩ (fun i y hy => by simp [Hp.none] at hy), ?_⟩
            simp [vcC0]
            refine same_ok ⟨[], s.shapes, s.texts, L, s.ends, s.said, s.asked, s.steps⟩ ⟨[], (throwS s t v).shapes, (throwS s t v).texts, L, (throwS s t v).ends, (throwS s t v).said, (throwS s t v).asked, (throwS s t v).steps⟩ ?_
            simp [throwS, doneS]
end Go.Proofs.YtjbkinmdcaegcaaGreatDoor
