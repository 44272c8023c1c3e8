/- Several texts in one. -/
import Derived.Test.YtjbkinmdcaegcaaGreatDoorMo
set_option linter.unusedSimpArgs false
set_option linter.unusedVariables false
set_option maxRecDepth 100000
set_option maxHeartbeats 16000000
namespace Go.Proofs.YtjbkinmdcaegcaaGreatDoor
open Go.RowKit Go
abbrev rD (b0 : Nat) : Nat → Nat := fun i => b0 + 2 + 5 * i
abbrev tD (b0 : Nat) : Nat → Nat := fun i => b0 + 3 + 5 * i
abbrev nD (b0 k : Nat) : Nat → Prop := fun q => ∃ i, i < k ∧ q = b0 + 3 + 5 * i
theorem newAt.set {H : Hp} {n i : Nat} {y : Option Blk} (h : i ≠ n → newAt H i) (hy : ∀ b, y = some b → newRs b.es) : newAt (H.set n y) i := fun x hx => by
  by_cases e : i = n
  · subst e; rw [Hp.set_same] at hx; exact hy x hx
  · rw [Hp.set_ne _ _ e] at hx; exact h e x hx
theorem FsAt.app {H H' : Hp} {N N' : Nat → Prop} {nF nF' : Nat} {r t : Nat → Nat} {fs : List GFrame} {f : GFrame} {FR : List (List C)} (h : FsAt H N nF r t fs FR) (hl : FR.length = fs.length) (hN : ∀ q, N q → N' q ∧ H' q = H q) (hr : ∀ i, i < fs.length → H' (r i) = H (r i))
    (hb : H' nF' = some ⟨.c 61, 8, FR ++ [frRow (r fs.length) (t fs.length) f]⟩) (h1 : H' (r fs.length) = some (valBlk f.regs)) (h2 : N' (t fs.length)) (h3 : H' (t fs.length) = some (tryBlk f.tries)) : FsAt H' N' nF' r t (fs ++ [f]) (FR ++ [frRow (r fs.length) (t fs.length) f]) := by
  refine ⟨hb, by simp [hl], fun e he x hx => ?_, fun i hi => ?_, fun i hi => ?_, fun i hi => ?_⟩
  · rcases List.mem_append.1 he with he | he
    · exact h.new e he x hx
    · rw [List.mem_singleton] at he
      subst he
      exact frRow_new _ _ _ x hx
  · rcases Nat.lt_or_ge i fs.length with hi2 | hi2
    · rw [List.getElem?_append_left (by omega), List.getElem_append_left hi2]; exact h.row i hi2
    · obtain rfl : i = fs.length := by simp at hi; omega
      rw [List.getElem?_append_right (by omega)]; simp [hl]
  · rcases Nat.lt_or_ge i fs.length with hi2 | hi2
    · rw [hr i hi2, List.getElem_append_left hi2]; exact h.regs i hi2
    · obtain rfl : i = fs.length := by simp at hi; omega
      simpa using h1
  · rcases Nat.lt_or_ge i fs.length with hi2 | hi2
    · obtain ⟨g1, ys, g2⟩ := h.tries i hi2
      rw [List.getElem_append_left hi2]
      exact ⟨(hN _ g1).1, ys, by rw [(hN _ g1).2]; exact g2⟩
    · obtain rfl : i = fs.length := by simp at hi; omega
      exact ⟨h2, [], by simpa using h3⟩
structure FrD (H0 : Hp) (b0 : Nat) (l : List GFrame) (x : HN) : Prop where
  hk : x.k ≤ l.length
  hn : x.nx = b0 + 1 + 5 * x.k
  fs : ∃ FR, FR.length = x.k ∧ FsAt x.H (nD b0 x.k) (b0 + 5 * x.k) (rD b0) (tD b0) (l.take x.k) FR
  low : ∀ i, i < b0 → x.H i = H0 i
  high : ∀ i, x.nx ≤ i → x.H i = none
  sol : HSol x.H
  new : ∀ i, b0 ≤ i → newAt x.H i
theorem framesD_ic (S : Bool) (l : List GFrame) (hn : l.length ≤ 30) (hl : ∀ f ∈ l, f.regs.length ≤ 100000000000 ∧ f.tries.length ≤ 100000000000) {H : Hp} {nx : Nat} (hS : HSol H) {K : D → Hp → Nat → Prop}
    (h : ∀ H' FR, (∀ i, i < nx → H' i = H i) → (∀ i, nx + 1 + 5 * l.length ≤ i → H' i = none) → HSol H' → (∀ i, nx ≤ i → newAt H' i) → FsAt H' (nD nx l.length) (nx + 5 * l.length) (rD nx) (tD nx) l FR → K (.one (.own (nx + 5 * l.length) 8 l.length)) H' (nx + 1 + 5 * l.length)) : ICall Tryz.prog 145 [dL S (l.map eFrame)] H nx K := by
  refine ICall.fresh (by kernel_rfl) fun hfr => ?_
  refine fni_ok [0,2,3,5,6,7,8,9] [(5, [0,0,2,7,0,0,32,127,111,511,1023,2047], (.seg 1 (.seg 2 (.seg 5 (.fork 0 [1, 2, 5] (.fork 3 [5] (.fork 4 [5] (.eff 6 [] (.seg 8 (.eff 7 [8] (.eff 9 [] (.seg 10 (.eff 11 [] .last)))))) (.eff 6 [] (.seg 8 (.eff 4 [8] (.eff 7 [8] (.eff 9 [] (.seg 10 (.eff 11 [] .last)))))))) (.fork 4 [1, 2, 5] (.fork 3 [5] (.eff 6 [] (.seg 8 (.eff 7 [8] (.eff 9 [] (.seg 10 (.eff 11 [] .last)))))) (.eff 6 [1, 2] (.eff 3 [] (.seg 8 (.eff 7 [8] (.eff 9 [] (.seg 10 (.eff 11 [] .last)))))))) (.eff 6 [1, 2] (.fork 3 [] (.seg 8 (.eff 4 [8] (.eff 7 [8] (.eff 9 [] (.seg 10 (.eff 11 [] .last)))))) (.eff 4 [1, 2] (.eff 3 [] (.seg 8 (.eff 7 [8] (.eff 9 [] (.seg 10 (.eff 11 [] .last))))))))))) (.fork 4 [1, 2, 5] (.fork 0 [1, 2, 5] (.fork 3 [5] (.eff 6 [] (.seg 8 (.eff 7 [8] (.eff 9 [] (.seg 10 (.eff 11 [] .last)))))) (.eff 6 [1, 2] (.eff 3 [] (.seg 8 (.eff 7 [8] (.eff 9 [] (.seg 10 (.eff 11 [] .last)))))))) (.eff 6 [1, 2] (.eff 0 [1, 2] (.eff 3 [] (.seg 8 (.eff 7 [8] (.eff 9 [] (.seg 10 (.eff 11 [] .last))))))))) (.eff 6 [1, 2] (.fork 0 [1, 2] (.fork 3 [] (.seg 8 (.eff 4 [8] (.eff 7 [8] (.eff 9 [] (.seg 10 (.eff 11 [] .last)))))) (.eff 4 [1, 2] (.eff 3 [] (.seg 8 (.eff 7 [8] (.eff 9 [] (.seg 10 (.eff 11 [] .last)))))))) (.eff 4 [1, 2] (.eff 0 [1, 2] (.eff 3 [] (.seg 8 (.eff 7 [8] (.eff 9 [] (.seg 10 (.eff 11 [] .last))))))))))))))))] Tryz.func145 rfl (by kernel_rfl) rfl rfl rfl rfl (by kernel_rfl) ?_
  simp
  intro _
  have hI0 : FrD H nx l ⟨0, H.set nx (some ⟨.c 61, 8, []⟩), nx + 1⟩ := by
    refine ⟨by simp, by simp, ⟨[], rfl, ⟨?_, by simp, (fun e he => by cases he), (fun i hi => by rw [List.take_zero] at hi; cases hi), (fun i hi => by rw [List.take_zero] at hi; cases hi), (fun i hi => by rw [List.take_zero] at hi; cases hi)⟩⟩, fun i hi => Hp.set_ne _ _ (by omega), fun i hi => ?_, hS.set (by simp), fun i hi => ?_⟩
    · exact Hp.set_same _ _ _
    · simp only at hi
      show Hp.set _ _ _ _ = _
      rw [Hp.set_ne _ _ (by omega)]; exact hfr i (by omega)
    · exact newAt.set (fun _ x hx => by rw [hfr i hi] at hx; cases hx) (fun b hb => by cases hb; exact fun e he => by cases he)
  refine loopH_ok (ks := [0,2,3,5,6,7,8,9]) (pl := [(5, [0,0,2,7,0,0,32,127,111,511,1023,2047], (.seg 1 (.seg 2 (.seg 5 (.fork 0 [1, 2, 5] (.fork 3 [5] (.fork 4 [5] (.eff 6 [] (.seg 8 (.eff 7 [8] (.eff 9 [] (.seg 10 (.eff 11 [] .last)))))) (.eff 6 [] (.seg 8 (.eff 4 [8] (.eff 7 [8] (.eff 9 [] (.seg 10 (.eff 11 [] .last)))))))) (.fork 4 [1, 2, 5] (.fork 3 [5] (.eff 6 [] (.seg 8 (.eff 7 [8] (.eff 9 [] (.seg 10 (.eff 11 [] .last)))))) (.eff 6 [1, 2] (.eff 3 [] (.seg 8 (.eff 7 [8] (.eff 9 [] (.seg 10 (.eff 11 [] .last)))))))) (.eff 6 [1, 2] (.fork 3 [] (.seg 8 (.eff 4 [8] (.eff 7 [8] (.eff 9 [] (.seg 10 (.eff 11 [] .last)))))) (.eff 4 [1, 2] (.eff 3 [] (.seg 8 (.eff 7 [8] (.eff 9 [] (.seg 10 (.eff 11 [] .last))))))))))) (.fork 4 [1, 2, 5] (.fork 0 [1, 2, 5] (.fork 3 [5] (.eff 6 [] (.seg 8 (.eff 7 [8] (.eff 9 [] (.seg 10 (.eff 11 [] .last)))))) (.eff 6 [1, 2] (.eff 3 [] (.seg 8 (.eff 7 [8] (.eff 9 [] (.seg 10 (.eff 11 [] .last)))))))) (.eff 6 [1, 2] (.eff 0 [1, 2] (.eff 3 [] (.seg 8 (.eff 7 [8] (.eff 9 [] (.seg 10 (.eff 11 [] .last))))))))) (.eff 6 [1, 2] (.fork 0 [1, 2] (.fork 3 [] (.seg 8 (.eff 4 [8] (.eff 7 [8] (.eff 9 [] (.seg 10 (.eff 11 [] .last)))))) (.eff 4 [1, 2] (.eff 3 [] (.seg 8 (.eff 7 [8] (.eff 9 [] (.seg 10 (.eff 11 [] .last)))))))) (.eff 4 [1, 2] (.eff 0 [1, 2] (.eff 3 [] (.seg 8 (.eff 7 [8] (.eff 9 [] (.seg 10 (.eff 11 [] .last))))))))))))))))]) (n0 := 28) (α := {x : HN // FrD H nx l x}) (fun x => [(3, .one (.own (nx + 5 * x.1.k) 8 x.1.k)), (8, dI x.1.k)]) (fun _ x => x.1.H) (fun x => x.1.nx) (fun x => l.length - x.1.k) ⟨_, hI0⟩ rfl (by kernel_rfl) ((Wk.emp (t := 3) 61 8 rfl).trans (Wk.sub (by simp))) ?_
  clear hI0
  rintro ⟨⟨k, H1, n1⟩, hI⟩
  obtain ⟨hk, hn1, ⟨FR, hFl, hF⟩, hlow, hhigh, hsol, hnew⟩ := hI
  simp only at hk hn1 hFl hF hlow hhigh hsol hnew
  by_cases h1 : k < l.length
  · obtain ⟨g1, g2⟩ := hl _ (List.getElem_mem h1)
    have hb := hF.blk
    have e0 : ¬ nx + 5 * k = n1 := by omega
    have e1 : ¬ nx + 5 * k = n1 + 1 := by omega
    have e2 : ¬ nx + 5 * k = n1 + 1 + 1 := by omega
    have e3 : ¬ nx + 5 * k = n1 + 1 + 1 + 1 := by omega
    have e4 : ¬ n1 = n1 + 1 + 1 := by omega
    have e5 : ¬ n1 = n1 + 1 + 1 + 1 := by omega
    have e6 : ¬ n1 + 1 = n1 + 1 + 1 + 1 := by omega
    simp (config := { maxSteps := 2000000 }) [h1, hb, hFl, e0, e1, e2, e3, e4, e5, e6]
    refine ⟨.inl g1, .inl g2, fun m b e hm => ?_, .inl (by omega), ⟨k + 1, (((H1.set (n1 + 1) (some (valBlk l[k].regs))).set (n1 + 1 + 1) (some (tryBlk l[k].tries))).set (nx + 5 * k) none).set (n1 + 1 + 1 + 1 + 1) (some ⟨.c 61, 8, FR ++ [frRow (rD nx k) (tD nx k) l[k]]⟩), n1 + 5⟩, by simp; omega, ⟨h1, by simp; omega, ?_, fun i hi => ?_, fun i hi => ?_, ?_, fun i hi => ?_⟩, (Wk.sub (by simp [wrap_add (show k < 9223372036854775807 by omega)]; omega)).trans (Wk.heap ?_)⟩
    · subst e
      rw [if_neg (by omega), if_neg (by omega), if_neg (by omega), if_neg (by omega), if_neg (by omega), hb] at hm
      cases hm
      exact ⟨rfl, rfl⟩
    · have hm : (l.take k).length = k := by simp; omega
      have ht : l.take (k + 1) = l.take k ++ [l[k]] := by rw [List.take_add_one, List.getElem?_eq_getElem h1]; rfl
      refine ⟨FR ++ [frRow (rD nx k) (tD nx k) l[k]], by simp [hFl], ?_⟩
      simp only
      rw [ht]
      have := FsAt.app (H' := (((H1.set (n1 + 1) (some (valBlk l[k].regs))).set (n1 + 1 + 1) (some (tryBlk l[k].tries))).set (nx + 5 * k) none).set (n1 + 1 + 1 + 1 + 1) (some ⟨.c 61, 8, FR ++ [frRow (rD nx k) (tD nx k) l[k]]⟩)) (N' := nD nx (k + 1)) (nF' := nx + 5 * (k + 1)) (f := l[k]) hF (by rw [hm]; exact hFl) (fun q ⟨i, hi, hq⟩ => ⟨⟨i, by omega, hq⟩, by
        subst hq
        rw [Hp.set_ne _ _ (by omega), Hp.set_ne _ _ (by omega), Hp.set_ne _ _ (by omega), Hp.set_ne _ _ (by omega)]⟩) (fun i hi => by
        simp only [rD]
        rw [hm] at hi
        rw [Hp.set_ne _ _ (by omega), Hp.set_ne _ _ (by omega), Hp.set_ne _ _ (by omega), Hp.set_ne _ _ (by omega)])
        (by rw [hm, show nx + 5 * (k + 1) = n1 + 1 + 1 + 1 + 1 by omega, Hp.set_same]) (by
        rw [hm]
        simp only [rD]
        rw [Hp.set_ne _ _ (by omega), Hp.set_ne _ _ (by omega), Hp.set_ne _ _ (by omega), show nx + 2 + 5 * k = n1 + 1 by omega, Hp.set_same]) ⟨k, by omega, by rw [hm]⟩ (by
        rw [hm]
        simp only [tD]
        rw [Hp.set_ne _ _ (by omega), Hp.set_ne _ _ (by omega), show nx + 3 + 5 * k = n1 + 1 + 1 by omega, Hp.set_same])
      rw [hm] at this
      exact this
    · show Hp.set _ _ _ _ = _
      rw [Hp.set_ne _ _ (by omega), Hp.set_ne _ _ (by omega), Hp.set_ne _ _ (by omega), Hp.set_ne _ _ (by omega)]; exact hlow i hi
    · simp only at hi
      show Hp.set _ _ _ _ = _
      rw [Hp.set_ne _ _ (by omega), Hp.set_ne _ _ (by omega), Hp.set_ne _ _ (by omega), Hp.set_ne _ _ (by omega)]; exact hhigh i (by omega)
    · refine HSol.set (HSol.none (HSol.set (HSol.set hsol (valBlk_sol _)) (tryBlk_sol _))) ?_
      intro e he c hc
      rcases List.mem_append.1 he with he | he
      · exact hsol _ _ hb e he c hc
      · rw [List.mem_singleton] at he
        subst he
        exact frRow_sol _ _ _ c hc
    · refine newAt.set (fun _ => newAt.set (fun _ => newAt.set (fun _ => newAt.set (fun _ => hnew i hi) ?_) ?_) ?_) ?_
      · intro b hb; cases hb; exact valBlk_new _
      · intro b hb; cases hb; exact tryBlk_new _
      · intro b hb; cases hb
      · intro b hb2
        cases hb2
        intro e he c hc
        rcases List.mem_append.1 he with he | he
        · exact hF.new e he c hc
        · rw [List.mem_singleton] at he
          subst he
          exact frRow_new _ _ _ c hc
    · intro i y hy
      have hr : frRow (rD nx k) (tD nx k) l[k] = [C.d (eI l[k].fn), C.d (eI l[k].at_), C.d (eI l[k].to), C.d (eI l[k].gen), C.d (eI l[k].self.kind), C.d (eI l[k].self.n), C.own (n1 + 1) 2 l[k].regs.length, C.own (n1 + 1 + 1) 2 l[k].tries.length] := by
        rw [frRow, show rD nx k = n1 + 1 by simp only [rD]; omega, show tD nx k = n1 + 1 + 1 by simp only [tD]; omega]
      rw [hr] at hy
      simp only at hy
      have htk : List.take k FR = FR := List.take_of_length_le (by omega)
      rw [htk]
      by_cases i4 : i = n1 + 1 + 1 + 1 + 1
      · subst i4; rw [Hp.set_same] at hy ⊢; exact hy
      rw [Hp.set_ne _ _ i4] at hy ⊢
      by_cases i0 : i = nx + 5 * k
      · subst i0; rw [Hp.set_same] at hy; cases hy
      rw [Hp.set_ne _ _ i0] at hy ⊢
      by_cases i2 : i = n1 + 1 + 1
      · subst i2
        rw [Hp.set_same] at hy
        rw [Hp.set_ne _ _ (by omega), Hp.set_ne _ _ (by omega), Hp.set_same]; exact hy
      rw [Hp.set_ne _ _ i2] at hy
      by_cases i1 : i = n1 + 1
      · subst i1
        rw [Hp.set_same] at hy
        rw [Hp.set_ne _ _ (by omega), Hp.set_ne _ _ (by omega), Hp.set_ne _ _ (by omega), Hp.set_same]; exact hy
      rw [Hp.set_ne _ _ i1] at hy
      have hlt : i < n1 := by
        rcases Nat.lt_or_ge i n1 with h | h
        · exact h
        · rw [hhigh i h] at hy; cases hy
      rw [Hp.set_ne _ _ (by omega), Hp.set_ne _ _ (by omega), Hp.set_ne _ _ (by omega), Hp.set_ne _ _ (by omega), Hp.set_ne _ _ (by omega)]; exact hy
  · obtain rfl : k = l.length := by omega
    simp [hsol]
    subst hn1
    rw [List.take_length] at hF
    exact h H1 FR hlow hhigh hsol hnew hF
structure CeD (H0 : Hp) (m : Nat) (s : GState) (x : HN) : Prop where
  hk : x.k ≤ s.cells.length
  hn : m + 3 ≤ x.nx
  box : x.H m = some ⟨.c 32, 8, [(eState s).map .d]⟩
  res : x.H (m + 1) = some ⟨.c 32, 8, [nilS]⟩
  ce : ∃ CR, CeAt x.H (fun q => m + 2 ≤ q ∧ q < x.nx - 1) (x.nx - 1) (s.cells.take x.k) CR
  low : ∀ i, i < m → x.H i = H0 i
  high : ∀ i, x.nx ≤ i → x.H i = none
  sol : HSol x.H
abbrev thV (t : GThread) : Nat := 4 + 5 * t.frames.length
structure ThD (H0 : Hp) (m e : Nat) (s : GState) (x : HN) : Prop where
  hk : x.k ≤ s.threads.length
  he : m + 4 ≤ e
  hn : x.nx = e + off thV s.threads x.k
  box : x.H m = some ⟨.c 32, 8, [(eState s).map .d]⟩
  res : x.H (m + 1) = some ⟨.c 32, 8, [nilS]⟩
  ce : ∃ CR, CeAt x.H (fun q => m + 2 ≤ q ∧ q < e - 2) (e - 2) s.cells CR
  th : ∃ TR, x.H (x.nx - 1) = some ⟨.c 56, 5, TR⟩ ∧ TR.length = x.k ∧ ∀ (i : Nat) (h : i < s.threads.length), i < x.k → TR[i]? = some (thR (.own (e + off thV s.threads i + 1 + 5 * s.threads[i].frames.length) 8 s.threads[i].frames.length) s.threads[i]) ∧
    ∃ FR, FsAt x.H (nD (e + off thV s.threads i + 1) s.threads[i].frames.length) (e + off thV s.threads i + 1 + 5 * s.threads[i].frames.length) (rD (e + off thV s.threads i + 1)) (tD (e + off thV s.threads i + 1)) s.threads[i].frames FR
  low : ∀ i, i < m → x.H i = H0 i
  high : ∀ i, x.nx ≤ i → x.H i = none
  sol : HSol x.H
structure CopD (H : Hp) (lo : Nat) (s : GState) (th : Nat) (N : Nat → Prop) (nC nT nF : Nat) (r t : Nat → Nat) (c1 c2 c4 c5 : C) (CR TR FR : List (List C)) : Prop where
  ceA : CeAt H N nC s.cells CR
  thA : ThAt H N th nT nF s.threads (s.threads.getD th dThread) TR
  fsA : FsAt H N nF r t (s.threads.getD th dThread).frames FR
  apt : Apt N nC nT nF r (s.threads.getD th dThread).frames.length
  oth : Shw H N c1 (.sl true (s.shapes.map eShape)) ∧ Shw H N c2 (.sl true (s.texts.map eStr)) ∧ Shw H N c4 (.sl true (s.ends.map eEnd)) ∧ Shw H N c5 (.sl true (s.said.map eVal))
  low : ∀ q, N q → lo ≤ q
  los : lo ≤ nC ∧ lo ≤ nT ∧ lo ≤ nF ∧ ∀ i, i < (s.threads.getD th dThread).frames.length → lo ≤ r i
def cpF (H2 : Hp) (nx m1 m2 : Nat) (s : GState) : Hp := (((((((H2.set nx (some ⟨.c 32, 8, [[.own m1 4 s.cells.length, .d (.sl true (s.shapes.map eShape)), .d (.sl true (s.texts.map eStr)), .own m2 5 s.threads.length, .d (.sl true (s.ends.map eEnd)), .d (.sl true (s.said.map eVal)), .d (eI s.asked), .d (eI s.steps)]]⟩)).set (m2 + 1) (some ⟨.c 99, 2, s.shapes.map ((fun e => e.map C.d) ∘ eShape)⟩)).set (m2 + 1 + 1) (some ⟨.c 9, 1, s.texts.map ((fun e => e.map C.d) ∘ eStr)⟩)).set nx (some ⟨.c 32, 8, [[.own m1 4 s.cells.length, .own (m2 + 1) 2 s.shapes.length, .own (m2 + 1 + 1) 1 s.texts.length, .own m2 5 s.threads.length, .d (.sl true (s.ends.map eEnd)), .d (.sl true (s.said.map eVal)), .d (eI s.asked), .d (eI s.steps)]]⟩)).set (m2 + 1 + 1 + 1) (some ⟨.c 128, 3, s.ends.map ((fun e => e.map C.d) ∘ eEnd)⟩)).set (m2 + 1 + 1 + 1 + 1) (some ⟨.c 50, 2, s.said.map ((fun e => e.map C.d) ∘ eVal)⟩)).set nx (some ⟨.c 32, 8, [[.own m1 4 s.cells.length, .own (m2 + 1) 2 s.shapes.length, .own (m2 + 1 + 1) 1 s.texts.length, .own m2 5 s.threads.length, .own (m2 + 1 + 1 + 1) 3 s.ends.length, .own (m2 + 1 + 1 + 1 + 1) 2 s.said.length, .d (eI s.asked), .d (eI s.steps)]]⟩)).set (nx + 1) (some ⟨.c 32, 8, [[.own m1 4 s.cells.length, .own (m2 + 1) 2 s.shapes.length, .own (m2 + 1 + 1) 1 s.texts.length, .own m2 5 s.threads.length, .own (m2 + 1 + 1 + 1) 3 s.ends.length, .own (m2 + 1 + 1 + 1 + 1) 2 s.said.length, .d (eI s.asked), .d (eI s.steps)]]⟩)
end Go.Proofs.YtjbkinmdcaegcaaGreatDoor
