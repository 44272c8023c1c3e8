/- Several texts in one. -/
import Derived.Test.YtjbkinmdcaegcaaGreatDoorMd
import Derived.Test.YtjbkinmdcaegcaaGreatDoorMm
import Derived.Test.YtjbkinmdcaegcaaGreatDoorMo
import Derived.Test.YtjbkinmdcaegcaaGreatDoorMp
import Derived.Test.YtjbkinmdcaegcaaGreatDoorMq
set_option linter.unusedSimpArgs false
set_option linter.unusedVariables false
set_option maxRecDepth 100000
set_option maxHeartbeats 16000000
namespace Go.Proofs.YtjbkinmdcaegcaaGreatDoor
open Go.RowKit Go
theorem Shw.sol {H : Hp} {N : Nat → Prop} {c : C} {d : Dt} (h : Shw H N c d) : C.solidC c = true := by
  cases h with
  | d h => exact h
  | emp => rfl
  | own X hn hx hk h1 h2 h3 h4 h5 => rfl
  | ptr X hn hx hk h4 h5 => rfl
structure ThrS where
  k : Nat
  H : Hp
  nx : Nat
  cs : List GCell
  CR : List (List C)
structure ThrI (H0 : Hp) (N : Nat → Prop) (nC nF n1 : Nat) (fs : List GFrame) (cs0 : List GCell) (w : GVal) (x : ThrS) : Prop where
  hk : x.k ≤ fs.length
  catch_ : catchN fs x.k = catchN fs fs.length
  done : doneL (dropG fs x.k) x.cs = doneL (dropG fs fs.length) cs0
  len : x.cs.length = cs0.length
  ce : CeAt x.H N nC x.cs x.CR
  tb : x.H (n1 + 1 + 1) = some ⟨.c 56, 5, [[.own nF 8 x.k, .d (eI 0), .d (eI 0), .d (eI w.kind), .d (eI w.n)]]⟩
  low : ∀ i, i < n1 + 1 + 1 → i ≠ nC → x.H i = H0 i
  hn : n1 + 3 ≤ x.nx
  sol : HSol x.H
  high : ∀ i, x.nx ≤ i → x.H i = none
theorem thrown_ic (s : GState) (hz : Sized s) (th : Nat) (v : GVal) (e : GEvent) (hth : th < s.threads.length) (he : e.a = 0 ∧ e.b = 0 ∧ e.old = ⟨0, 0⟩) (hne : (s.threads.getD th dThread).frames ≠ [])
    (hreg : ∀ f ∈ (s.threads.getD th dThread).frames, f.tries ≠ [] → 0 ≤ (lastTry f.tries).reg ∧ (lastTry f.tries).reg < f.regs.length) (hgen : ∀ f ∈ (s.threads.getD th dThread).frames, 0 ≤ f.gen → f.gen < s.cells.length) (hl : (s.threads.getD th dThread).frames.length ≤ 30) (hlt : ∀ f ∈ (s.threads.getD th dThread).frames, f.tries.length ≤ 1000)
    {H : Hp} {nx : Nat} (hS : HSol H) {K : D → Hp → Nat → Prop}
    (h : ∀ H' nx' N R eo, nx ≤ nx' → (∀ i, i < nx → H' i = H i) → HSol H' → (∀ q, N q → nx ≤ q) → CsS H' N R (eState (throwS s th v)) → Shw H' N (.own eo 12 2) (.sl true ((throwEv (s.threads.getD th dThread).frames e v).map eEvent)) → K (.tup [.agg R, .one (.own eo 12 2)]) H' nx') :
    ICall Tryz.prog 37 [aD (eState s), dI th, aD (eVal v), aD (eEvent e)] H nx K := by
  refine ICall.fresh (by kernel_rfl) fun hfr => ?_
  refine fni_ok [0,1,2,3,4,6,7,8,9,10,11,12,13,14,15,16,36,63,106] [(8, [0,0,2,7,15], (.seg 0 (.seg 1 (.eff 2 [0] (.seg 3 (.eff 4 [] .last)))))), (10, [0,0,0,0,0,28,60,126,255,511], (.seg 1 (.seg 2 (.seg 3 (.seg 4 (.fork 0 [2, 3, 4] (.eff 5 [2, 3, 4] (.eff 6 [] (.eff 7 [] (.eff 8 [] (.seg 9 .last))))) (.eff 5 [2, 3, 4] (.fork 0 [] (.eff 6 [] (.eff 7 [] (.eff 8 [] (.seg 9 .last)))) (.eff 6 [] (.fork 0 [] (.eff 7 [] (.eff 8 [] (.seg 9 .last))) (.eff 7 [] (.eff 0 [] (.eff 8 [] (.seg 9 .last)))))))))))))), (15, [0,1,0,4,15,0,32,31,159,511,1023], (.seg 0 (.seg 1 (.seg 2 (.seg 3 (.seg 4 (.seg 5 (.seg 6 (.seg 7 (.eff 8 [5, 6] (.seg 9 (.eff 10 [] .last)))))))))))), (19, [0,0,0,0,0,28,60,126,255,511], (.seg 1 (.seg 2 (.seg 3 (.seg 4 (.fork 0 [2, 3, 4] (.eff 5 [2, 3, 4] (.eff 6 [] (.eff 7 [] (.eff 8 [] (.seg 9 .last))))) (.eff 5 [2, 3, 4] (.fork 0 [] (.eff 6 [] (.eff 7 [] (.eff 8 [] (.seg 9 .last)))) (.eff 6 [] (.fork 0 [] (.eff 7 [] (.eff 8 [] (.seg 9 .last))) (.eff 7 [] (.eff 0 [] (.eff 8 [] (.seg 9 .last))))))))))))))] Tryz.func37 rfl (by kernel_rfl) rfl rfl rfl rfl (by kernel_rfl) ?_
  simp [Nat.add_assoc]
  refine copied_ic s hz th hth ?_ (fun H1 n1 N nC nT nF r t c1 c2 c4 c5 CR TR FR hn1 low1 high1 hNn sol1 hD => ?_)
  · refine HSol.set (HSol.set (HSol.set (HSol.set hS ?_) ?_) ?_) ?_ <;> simp
  have g0 : H1 nx = some ⟨.c 32, 8, [(eState s).map .d]⟩ := by rw [low1 _ (by omega)]; simp [Hp.set]
  have g1 : H1 (nx + 1) = some ⟨.c 50, 2, [[.d (eI v.kind), .d (eI v.n)]]⟩ := by rw [low1 _ (by omega)]; simp [Hp.set]
  have g2 : H1 (nx + 2) = some ⟨.c 76, 12, [evRow e]⟩ := by rw [low1 _ (by omega)]; simp [Hp.set, evRow]
  have g3 : H1 (nx + 3) = some ⟨.c 32, 8, [nilS]⟩ := by rw [low1 _ (by omega)]; simp [Hp.set, nilS]
  have low2 : ∀ i, i < nx → H1 i = H i := fun i hi => by rw [low1 _ (by omega), Hp.set_ne _ _ (by omega), Hp.set_ne _ _ (by omega), Hp.set_ne _ _ (by omega), Hp.set_ne _ _ (by omega)]
  clear low1
  obtain ⟨kC, kT, kF, kA, kO, kl, l1, l2, l3, l4⟩ := hD
  generalize hT : s.threads.getD th dThread = T at *
  have hTb := kT.blk
  obtain ⟨hTb2, hTr⟩ := List.getElem?_eq_some_iff.1 kT.own
  rw [thR] at hTr
  rw [evRow] at g2
  have e0 : ¬ nx = n1 := by omega
  have e1 : ¬ nx = n1 + 1 := by omega
  have e2 : ¬ nx + 1 = n1 := by omega
  have e3 : ¬ nx + 2 = n1 := by omega
  have e4 : ¬ nT = nx := by omega
  have p1 := fresh_lt high1 kC.blk
  have p2 := fresh_lt high1 kT.blk
  have p3 := fresh_lt high1 kF.blk
  have e5 : ¬ nT = n1 := by omega
  have e6 : ¬ nT = n1 + 1 := by omega
  simp [g0, g1, g2, e0, e1, e2, e3]
  refine evTold_ok e 7 0 0 v ⟨0, 0⟩ ?_
  simp [g0, g1, g2, e0, e1, e2, e3, e4, e5, e6, hth, hTb, hTb2, hTr]
  have b0 : ((H1.set nx (some ⟨.c 32, 8, [[C.own nC 4 s.cells.length, c1, c2, C.own nT 5 s.threads.length, c4, c5, C.d (eI s.asked), C.d (eI s.steps)]]⟩)).set n1 (some ⟨.c 50, 2, [[.d (eI 0), .d (eI 0)]]⟩)).set (n1 + 1) (some ⟨.c 76, 12, [evRow (tellE e 7 v)]⟩) (n1 + 1) = some ⟨.c 76, 12, [evRow (tellE e 7 v)]⟩ := Hp.set_same _ _ _
  have b1 : ∀ i, i ≠ nx → i < n1 → ((H1.set nx (some ⟨.c 32, 8, [[C.own nC 4 s.cells.length, c1, c2, C.own nT 5 s.threads.length, c4, c5, C.d (eI s.asked), C.d (eI s.steps)]]⟩)).set n1 (some ⟨.c 50, 2, [[.d (eI 0), .d (eI 0)]]⟩)).set (n1 + 1) (some ⟨.c 76, 12, [evRow (tellE e 7 v)]⟩) i = H1 i := fun i h1 h2 => by
    rw [Hp.set_ne _ _ (by omega), Hp.set_ne _ _ (by omega), Hp.set_ne _ _ h1]
  have b2 : ((H1.set nx (some ⟨.c 32, 8, [[C.own nC 4 s.cells.length, c1, c2, C.own nT 5 s.threads.length, c4, c5, C.d (eI s.asked), C.d (eI s.steps)]]⟩)).set n1 (some ⟨.c 50, 2, [[.d (eI 0), .d (eI 0)]]⟩)).set (n1 + 1) (some ⟨.c 76, 12, [evRow (tellE e 7 v)]⟩) nx = some ⟨.c 32, 8, [[C.own nC 4 s.cells.length, c1, c2, C.own nT 5 s.threads.length, c4, c5, C.d (eI s.asked), C.d (eI s.steps)]]⟩ := by
    rw [Hp.set_ne _ _ (by omega), Hp.set_ne _ _ (by omega), Hp.set_same]
  have b3 : ((H1.set nx (some ⟨.c 32, 8, [[C.own nC 4 s.cells.length, c1, c2, C.own nT 5 s.threads.length, c4, c5, C.d (eI s.asked), C.d (eI s.steps)]]⟩)).set n1 (some ⟨.c 50, 2, [[.d (eI 0), .d (eI 0)]]⟩)).set (n1 + 1) (some ⟨.c 76, 12, [evRow (tellE e 7 v)]⟩) n1 = some ⟨.c 50, 2, [[.d (eI 0), .d (eI 0)]]⟩ := by
    rw [Hp.set_ne _ _ (by omega), Hp.set_same]
  have b4 : HSol (((H1.set nx (some ⟨.c 32, 8, [[C.own nC 4 s.cells.length, c1, c2, C.own nT 5 s.threads.length, c4, c5, C.d (eI s.asked), C.d (eI s.steps)]]⟩)).set n1 (some ⟨.c 50, 2, [[.d (eI 0), .d (eI 0)]]⟩)).set (n1 + 1) (some ⟨.c 76, 12, [evRow (tellE e 7 v)]⟩)) := by
    refine HSol.set (HSol.set (HSol.set sol1 ?_) (by simp)) (by simp [evRow])
    obtain ⟨o1, o2, o3, o4⟩ := kO
    intro e he c hc
    rw [List.mem_singleton] at he
    subst he
    simp at hc
    rcases hc with rfl | rfl | rfl | rfl | rfl | rfl | rfl | rfl
    · rfl
    · exact o1.sol
    · exact o2.sol
    · rfl
    · exact o3.sol
    · exact o4.sol
    · rfl
    · rfl
  have b5 : ∀ i, n1 + 1 + 1 ≤ i → ((H1.set nx (some ⟨.c 32, 8, [[C.own nC 4 s.cells.length, c1, c2, C.own nT 5 s.threads.length, c4, c5, C.d (eI s.asked), C.d (eI s.steps)]]⟩)).set n1 (some ⟨.c 50, 2, [[.d (eI 0), .d (eI 0)]]⟩)).set (n1 + 1) (some ⟨.c 76, 12, [evRow (tellE e 7 v)]⟩) i = none := fun i hi => by
    rw [Hp.set_ne _ _ (by omega), Hp.set_ne _ _ (by omega), Hp.set_ne _ _ (by omega)]; exact high1 i (by omega)
  rw [show ([[C.d (eI 7), C.d (eI e.step), C.d (eI e.thread), C.d (eI e.fn), C.d (eI e.at_), C.d (eI e.line), C.d (eI 0), C.d (eI 0), C.d (eI v.kind), C.d (eI v.n), C.d (eI 0), C.d (eI 0)]] : List (List C)) = [evRow (tellE e 7 v)] by simp [evRow, tellE, he]]
  generalize ((H1.set nx (some ⟨.c 32, 8, [[C.own nC 4 s.cells.length, c1, c2, C.own nT 5 s.threads.length, c4, c5, C.d (eI s.asked), C.d (eI s.steps)]]⟩)).set n1 (some ⟨.c 50, 2, [[.d (eI 0), .d (eI 0)]]⟩)).set (n1 + 1) (some ⟨.c 76, 12, [evRow (tellE e 7 v)]⟩) = H0 at *
  have lowN : ∀ q, N q → H0 q = H1 q := fun q hq => b1 q (by have := kl q hq; omega) (hNn q hq)
  have c0 := kC.low lowN (b1 _ (by omega) p1)
  have c1' := kT.low lowN (b1 _ (by omega) p2)
  have c2' := kF.low lowN (b1 _ (by omega) p3) fun i hi => b1 _ (by have := l4 i hi; omega) (fresh_lt high1 (kF.regs i hi))
  have gN : ∀ q, N q → q < n1 + 1 + 1 := fun q hq => by have := hNn q hq; omega
  have nC1 : ∀ q, N q → q ≠ nC := fun q hq e => kA.c (by rw [← e]; exact hq)
  have hthrow : throwS s th v = doneS s (dropG T.frames T.frames.length) (s.threads.set th (throwT T v)) := by rw [throwS, hT]
  have fin : ∀ (Mx M4 : Hp) (n5 nx' : Nat) (CR' TR' FR' : List (List C)) (kd : Int), endK T.frames = kd → n1 + 3 ≤ n5 → nx ≤ nx' → HSol Mx → (∀ i, i < n1 + 2 → i ≠ n1 + 1 → i ≠ nx + 3 → Mx i = M4 i) → Mx (n5 + 1) = some ⟨.c 76, 12, [evRow (tellE e 7 v), evRow (tellE e kd v)]⟩ →
      CeAt M4 N nC (doneL (dropG T.frames T.frames.length) s.cells) CR' → ThAt M4 N th nT nF s.threads (throwT T v) TR' → FsAt M4 N nF r t (throwT T v).frames FR' → (∀ q, N q → M4 q = H1 q) → (∀ i, i < nx → M4 i = H i) →
      K (.tup [.agg [.own nC 4 s.cells.length, c1, c2, .own nT 5 s.threads.length, c4, c5, .d (eI s.asked), .d (eI s.steps)], .one (.own (n5 + 1) 12 2)]) Mx nx' := by
    intro Mx M4 n5 nx' CR' TR' FR' kd hkd hn5 hnx' solx lowx evx y1 y2 y3 lowM lowH
    have hfl : (throwT T v).frames.length ≤ T.frames.length := by
      unfold throwT
      split
      · simp
      · simp; omega
    have z0 : ∀ q, N q → Mx q = M4 q := fun q hq => lowx q (by have := hNn q hq; omega) (by have := hNn q hq; omega) (by have := kl q hq; omega)
    have y1 := y1.low z0 (lowx _ (by omega) (by omega) (by omega))
    have y2 := y2.low z0 (lowx _ (by omega) (by omega) (by omega))
    have y3 := y3.low z0 (lowx _ (by omega) (by omega) (by omega)) fun i hi => lowx _ (by have := fresh_lt high1 (kF.regs i (by omega)); omega) (by have := fresh_lt high1 (kF.regs i (by omega)); omega) (by have := l4 i (by omega); omega)
    have hw : ∀ q, N q → nx ≤ q := fun q hq => by have := kl q hq; omega
    have x2 := y3.shw (N' := fun q => nx ≤ q) hw (by omega) fun i hi => by have := l4 i (by omega); omega
    have x3 := y2.shw (N' := fun q => nx ≤ q) hth hw (by omega) x2
    have x1 : Shw Mx (fun q => nx ≤ q) (.own nC 4 s.cells.length) (.sl true ((doneL (dropG T.frames T.frames.length) s.cells).map eCell)) := by
      have := y1.shw (N' := fun q => nx ≤ q) hw (by omega)
      simpa [doneL] using this
    obtain ⟨o1, o2, o3, o4⟩ := kO
    have hoN : ∀ q, N q → nx ≤ q ∧ ∀ x, H1 q = some x → Mx q = some x := fun q hq => ⟨hw q hq, fun x hx => by rw [z0 q hq, lowM q hq]; exact hx⟩
    refine h Mx nx' (fun q => nx ≤ q) _ (n5 + 1) hnx' (fun i hi => by rw [lowx i (by omega) (by omega) (by omega)]; exact lowH i hi) solx (fun q hq => hq) ?_ ?_
    · rw [hthrow]
      exact ⟨x1, o1.mono hoN, o2.mono hoN, x3, o3.mono hoN, o4.mono hoN, .d rfl, .d rfl, trivial⟩
    · have : ((throwEv T.frames e v).map eEvent) = [eEvent (tellE e 7 v), eEvent (tellE e kd v)] := by rw [throwEv, hkd]; rfl
      rw [this]
      exact Shw.row (by omega) evx rfl rfl rfl (by simp) (fun e' he' d hd => by
        simp only [List.mem_cons, List.mem_singleton, List.not_mem_nil, or_false] at he'
        rcases he' with rfl | rfl
        all_goals
          simp at hd
          rcases hd with rfl | rfl | rfl | rfl | rfl | rfl | rfl | rfl | rfl | rfl | rfl | rfl <;> rfl)
  have fin2 : ∀ (M4 : Hp) (n5 : Nat) (CR' TR' FR' : List (List C)) (kd : Int), endK T.frames = kd → n1 + 3 ≤ n5 → HSol M4 →
      CeAt M4 N nC (doneL (dropG T.frames T.frames.length) s.cells) CR' → ThAt M4 N th nT nF s.threads (throwT T v) TR' → FsAt M4 N nF r t (throwT T v).frames FR' → (∀ q, N q → M4 q = H1 q) → (∀ i, i < nx → M4 i = H i) →
      HSol ((((M4.set n5 (some ⟨.c 76, 12, [[C.d (eI kd), C.d (eI e.step), C.d (eI e.thread), C.d (eI e.fn), C.d (eI e.at_), C.d (eI e.line), C.d (eI 0), C.d (eI 0), C.d (eI v.kind), C.d (eI v.n), C.d (eI 0), C.d (eI 0)]]⟩)).set (n1 + 1) none).set (n5 + 1) (some ⟨.c 76, 12, [evRow (tellE e 7 v), [C.d (eI kd), C.d (eI e.step), C.d (eI e.thread), C.d (eI e.fn), C.d (eI e.at_), C.d (eI e.line), C.d (eI 0), C.d (eI 0), C.d (eI v.kind), C.d (eI v.n), C.d (eI 0), C.d (eI 0)]]⟩)).set (nx + 3) (some ⟨.c 32, 8, [[.own nC 4 s.cells.length, c1, c2, .own nT 5 s.threads.length, c4, c5, .d (eI s.asked), .d (eI s.steps)]]⟩)) ∧
      K (.tup [.agg [.own nC 4 s.cells.length, c1, c2, .own nT 5 s.threads.length, c4, c5, .d (eI s.asked), .d (eI s.steps)], .one (.own (n5 + 1) 12 2)]) ((((M4.set n5 (some ⟨.c 76, 12, [[C.d (eI kd), C.d (eI e.step), C.d (eI e.thread), C.d (eI e.fn), C.d (eI e.at_), C.d (eI e.line), C.d (eI 0), C.d (eI 0), C.d (eI v.kind), C.d (eI v.n), C.d (eI 0), C.d (eI 0)]]⟩)).set (n1 + 1) none).set (n5 + 1) (some ⟨.c 76, 12, [evRow (tellE e 7 v), [C.d (eI kd), C.d (eI e.step), C.d (eI e.thread), C.d (eI e.fn), C.d (eI e.at_), C.d (eI e.line), C.d (eI 0), C.d (eI 0), C.d (eI v.kind), C.d (eI v.n), C.d (eI 0), C.d (eI 0)]]⟩)).set (nx + 3) (some ⟨.c 32, 8, [[.own nC 4 s.cells.length, c1, c2, .own nT 5 s.threads.length, c4, c5, .d (eI s.asked), .d (eI s.steps)]]⟩)) (n5 + 1 + 1) := by
    intro M4 n5 CR' TR' FR' kd hkd hn5 sol4 y1 y2 y3 lowM lowH
    rw [show [C.d (eI kd), C.d (eI e.step), C.d (eI e.thread), C.d (eI e.fn), C.d (eI e.at_), C.d (eI e.line), C.d (eI 0), C.d (eI 0), C.d (eI v.kind), C.d (eI v.n), C.d (eI 0), C.d (eI 0)] = evRow (tellE e kd v) by simp [evRow, tellE, he]]
    have solx : HSol ((((M4.set n5 (some ⟨.c 76, 12, [evRow (tellE e kd v)]⟩)).set (n1 + 1) none).set (n5 + 1) (some ⟨.c 76, 12, [evRow (tellE e 7 v), evRow (tellE e kd v)]⟩)).set (nx + 3) (some ⟨.c 32, 8, [[.own nC 4 s.cells.length, c1, c2, .own nT 5 s.threads.length, c4, c5, .d (eI s.asked), .d (eI s.steps)]]⟩)) := by
      refine HSol.set (HSol.set (HSol.none (HSol.set sol4 (by simp [evRow]))) (by simp [evRow])) ?_
      obtain ⟨o1, o2, o3, o4⟩ := kO
      intro e he c hc
      rw [List.mem_singleton] at he
      subst he
      simp at hc
      rcases hc with rfl | rfl | rfl | rfl | rfl | rfl | rfl | rfl
      · rfl
      · exact o1.sol
      · exact o2.sol
      · rfl
      · exact o3.sol
      · exact o4.sol
      · rfl
      · rfl
    exact ⟨solx, fin _ M4 n5 _ CR' TR' FR' kd hkd hn5 (by omega) solx (fun i h1 h2 h3 => by rw [Hp.set_ne _ _ h3, Hp.set_ne _ _ (by omega), Hp.set_ne _ _ h2, Hp.set_ne _ _ (by omega)]) (by rw [Hp.set_ne _ _ (by omega), Hp.set_same]) y1 y2 y3 lowM lowH⟩
  have hI0 : ThrI H0 N nC nF n1 T.frames s.cells T.val ⟨T.frames.length, H0.set (n1 + 1 + 1) (some ⟨.c 56, 5, [[.own nF 8 T.frames.length, .d (eI 0), .d (eI 0), .d (eI T.val.kind), .d (eI T.val.n)]]⟩), n1 + 3, s.cells, CR⟩ :=
    ⟨Nat.le_refl _, rfl, rfl, rfl, c0.low (fun q hq => Hp.set_ne _ _ (by have := gN q hq; omega)) (Hp.set_ne _ _ (by omega)), Hp.set_same _ _ _, fun i h1 h2 => Hp.set_ne _ _ (by omega), Nat.le_refl _, b4.set (by simp), fun i hi => by show Hp.set _ _ _ _ = _; simp only at hi; rw [Hp.set_ne _ _ (by omega)]; exact b5 i (by omega)⟩
  refine loopH_ok (ks := [0,1,2,3,4,6,7,8,9,10,11,12,13,14,15,16,36,63,106]) (pl := [(8, [0,0,2,7,15], (.seg 0 (.seg 1 (.eff 2 [0] (.seg 3 (.eff 4 [] .last)))))), (10, [0,0,0,0,0,28,60,126,255,511], (.seg 1 (.seg 2 (.seg 3 (.seg 4 (.fork 0 [2, 3, 4] (.eff 5 [2, 3, 4] (.eff 6 [] (.eff 7 [] (.eff 8 [] (.seg 9 .last))))) (.eff 5 [2, 3, 4] (.fork 0 [] (.eff 6 [] (.eff 7 [] (.eff 8 [] (.seg 9 .last)))) (.eff 6 [] (.fork 0 [] (.eff 7 [] (.eff 8 [] (.seg 9 .last))) (.eff 7 [] (.eff 0 [] (.eff 8 [] (.seg 9 .last)))))))))))))), (15, [0,1,0,4,15,0,32,31,159,511,1023], (.seg 0 (.seg 1 (.seg 2 (.seg 3 (.seg 4 (.seg 5 (.seg 6 (.seg 7 (.eff 8 [5, 6] (.seg 9 (.eff 10 [] .last)))))))))))), (19, [0,0,0,0,0,28,60,126,255,511], (.seg 1 (.seg 2 (.seg 3 (.seg 4 (.fork 0 [2, 3, 4] (.eff 5 [2, 3, 4] (.eff 6 [] (.eff 7 [] (.eff 8 [] (.seg 9 .last))))) (.eff 5 [2, 3, 4] (.fork 0 [] (.eff 6 [] (.eff 7 [] (.eff 8 [] (.seg 9 .last)))) (.eff 6 [] (.fork 0 [] (.eff 7 [] (.eff 8 [] (.seg 9 .last))) (.eff 7 [] (.eff 0 [] (.eff 8 [] (.seg 9 .last))))))))))))))]) (n0 := 119) (α := {x : ThrS // ThrI H0 N nC nF n1 T.frames s.cells T.val x}) (fun x => []) (fun _ x => x.1.H) (fun x => x.1.nx) (fun x => x.1.k) ⟨_, hI0⟩ rfl (by kernel_rfl) (Wk.sub (by simp)) ?_
  clear hI0
  rintro ⟨⟨k, H2, n2, cs, CR2⟩, hI⟩
  obtain ⟨hk, hcatch, hdone, hlen, hCe, htb, hlow, hn2, hsol, hhigh⟩ := hI
  simp only at hk hcatch hdone hlen hCe htb hlow hn2 hsol hhigh
  have q0 : H2 nx = some ⟨.c 32, 8, [[C.own nC 4 s.cells.length, c1, c2, C.own nT 5 s.threads.length, c4, c5, C.d (eI s.asked), C.d (eI s.steps)]]⟩ := by rw [hlow _ (by omega) (by omega)]; exact b2
  have q1 : H2 (nx + 1) = some ⟨.c 50, 2, [[.d (eI v.kind), .d (eI v.n)]]⟩ := by rw [hlow _ (by omega) (by omega), b1 _ (by omega) (by omega)]; exact g1
  have q2 : H2 (nx + 2) = some ⟨.c 76, 12, [(eEvent e).map .d]⟩ := by rw [hlow _ (by omega) (by omega), b1 _ (by omega) (by omega)]; exact g2
  have q3 : H2 (nx + 3) = some ⟨.c 32, 8, [nilS]⟩ := by rw [hlow _ (by omega) (by omega), b1 _ (by omega) (by omega)]; exact g3
  have q4 : H2 n1 = some ⟨.c 50, 2, [[.d (eI 0), .d (eI 0)]]⟩ := by rw [hlow _ (by omega) (by omega)]; exact b3
  have q5 : H2 (n1 + 1) = some ⟨.c 76, 12, [evRow (tellE e 7 v)]⟩ := by rw [hlow _ (by omega) (by omega)]; exact b0
  have q6 : H2 nT = some ⟨.c 56, 5, TR⟩ := by rw [hlow _ (by omega) (fun e => kA.ct e.symm)]; exact c1'.blk
  rw [nilS] at q3
  have hT2 := c1'.low (H' := H2) (fun q hq => hlow q (gN q hq) (nC1 q hq)) (hlow _ (by omega) (fun e => kA.ct e.symm))
  have hF2 := c2'.low (H' := H2) (fun q hq => hlow q (gN q hq) (nC1 q hq)) (hlow _ (by omega) (fun e => kA.cf e.symm)) fun i hi => hlow _ (by have := fresh_lt high1 (kF.regs i hi); omega) (kA.rs i hi).2.1
  have f1 : ¬ n1 + 1 + 1 = nT := by omega
  have f2 : ¬ nx = nT := by omega
  have f3 : ¬ nx + 1 = nT := by omega
  have f4 : ¬ nx + 2 = nT := by omega
  have f5 : ¬ nx + 3 = nT := by omega
  have f6 : ¬ n1 = nT := by omega
  have f7 : ¬ n1 + 1 = nT := by omega
  have e7 : ¬ nx = n1 + 1 + 1 := by omega
  have e8 : ¬ nx + 1 = n1 + 1 + 1 := by omega
  have e9 : ¬ nx + 2 = n1 + 1 + 1 := by omega
  have e10 : ¬ nx + 3 = n1 + 1 + 1 := by omega
  have e11 : ¬ nx + 3 = n1 := by omega
  have e12 : ¬ nx + 3 = n1 + 1 := by omega
  have e13 : ¬ nx + 1 = n1 + 1 := by omega
  have e14 : ¬ nx + 2 = n1 + 1 := by omega
  cases k with
  | zero =>
    have z11 : ¬ n1 + 1 = nT := by omega
    have z0 : ¬ nT = n1 + 1 + 1 := by omega
    have z10 : ¬ n1 = n1 + 1 + 1 := by omega
    have z1 : ¬ nx = n2 := by omega
    have z2 : ¬ nx + 1 = n2 := by omega
    have z3 : ¬ nx + 2 = n2 := by omega
    have z4 : ¬ nx + 3 = n2 := by omega
    have z5 : ¬ n1 = n2 := by omega
    have z6 : ¬ n1 + 1 = n2 := by omega
    have z7 : ¬ n1 + 1 + 1 = n2 := by omega
    have z8 : ¬ nx + 3 = n2 + 1 := by omega
    have z9 : ¬ nx = n2 + 1 := by omega
    simp [q0, q1, q2, q3, q4, q5, q6, htb, f1, f2, f3, f4, f5, f6, f7, hth, hTb2, e0, e1, e2, e3, e7, e8, e9, e10, e11, e12, e13, e14, z0, z10, z1, z2, z3, z4, z5, z6, z7, z8, z9]
    refine ⟨by simp [hTr], ?_⟩
    with_reducible refine ⟨?_, ?_⟩
    all_goals
      refine evTold_ok e 17 0 0 v ⟨0, 0⟩ ?_
      simp [q0, q1, q2, q3, q4, q5, q6, htb, f1, f2, f3, f4, f5, f6, f7, hth, hTb2, e0, e1, e2, e3, e7, e8, e9, e10, e11, e12, e13, e14, z0, z10, z1, z2, z3, z4, z5, z6, z7, z8, z9, z11, evRow, hTr]
      have hct : catchN T.frames T.frames.length = none := hcatch.symm
      have htT : throwT T v = ⟨[], 4, 0, v⟩ := by unfold throwT; rw [hct]
      have hcs : cs = doneL (dropG T.frames T.frames.length) s.cells := by rw [← hdone]; exact doneL_nil.symm
      have tl : ∀ q, q ≠ n1 + 1 + 1 → H2.set (n1 + 1 + 1) (some ⟨.c 56, 5, [[.own nF 8 0, .d (eI 4), .d (eI 0), .d (eI v.kind), .d (eI v.n)]]⟩) q = H2 q := fun q hq => Hp.set_ne _ _ hq
      have hT3 := (hT2.low (fun q hq => tl q (by have := gN q hq; omega)) (tl _ (by omega))).set kA.tn hth ⟨[], 4, 0, v⟩ (e := [.own nF 8 0, .d (eI 4), .d (eI 0), .d (eI v.kind), .d (eI v.n)]) rfl
      obtain ⟨o1, o2, o3, o4⟩ := kO
      refine ⟨fun m b em hb => ?_, ⟨o1.sol, o2.sol, o3.sol, o4.sol⟩, ?_⟩
      · subst em
        rw [if_neg (by omega), if_neg (by omega), if_neg (by omega), q5] at hb
        cases hb
        exact ⟨rfl, rfl⟩
      refine fin2 _ n2 CR2 _ FR 17 (by rw [endK, hct]) hn2 ((hsol.set (by simp)).set hT3.new.sol) ?_ (by rw [htT]; exact hT3) ?_ (fun q hq => ?_) fun i hi => ?_
      · rw [← hcs]
        exact (hCe.low (fun q hq => tl q (by have := gN q hq; omega)) (tl _ (by omega))).low (fun q hq => Hp.set_ne _ _ fun e => kA.tn (by rw [← e]; exact hq)) (Hp.set_ne _ _ kA.ct)
      · rw [htT]
        exact ((hF2.low (fun q hq => tl q (by have := gN q hq; omega)) (tl _ (by omega)) fun i hi => tl _ (by have := fresh_lt high1 (kF.regs i hi); omega)).low (fun q hq => Hp.set_ne _ _ fun e => kA.tn (by rw [← e]; exact hq)) (Hp.set_ne _ _ fun e => kA.tf e.symm) fun i hi => Hp.set_ne _ _ (kA.rs i hi).2.2.1).take 0
      · rw [Hp.set_ne _ _ fun e => kA.tn (by rw [← e]; exact hq), tl q (by have := gN q hq; omega), hlow q (gN q hq) (nC1 q hq), lowN q hq]
      · rw [Hp.set_ne _ _ (by omega), tl i (by omega), hlow i (by omega) (by omega), b1 i (by omega) (by omega)]; exact low2 i hi
  | succ j =>
    have hj : j < T.frames.length := hk
    have hFb := hF2.blk
    obtain ⟨hFl, hFr⟩ := List.getElem?_eq_some_iff.1 (hF2.row j hj)
    rw [frRow] at hFr
    have hget : T.frames.getD j dFrame = T.frames[j] := by simp [List.getD_eq_getElem?_getD, hj]
    have hwj : IntKind.i64.wrap (j : Int) = j := wrap_id (by omega) (by omega)
    have w0 : ¬ (j : Int) + 1 = 0 := by omega
    have z1 : ¬ nx = n2 := by omega
    have z2 : ¬ nx + 1 = n2 := by omega
    have z3 : ¬ nx + 2 = n2 := by omega
    have z4 : ¬ n1 + 1 + 1 = n2 := by omega
    have z5 : ¬ nF = n2 := by omega
    have z6 : ¬ nC = n2 := by omega
    have z7 : ¬ nF = n1 + 1 + 1 := by omega
    have z8 : ¬ nC = n1 + 1 + 1 := by omega
    have z9 : ¬ n1 + 1 + 1 = nC := by omega
    have z10 : ¬ n2 = nC := by omega
    have z11 : ¬ nx = nC := by omega
    by_cases ht0 : T.frames[j].tries = []
    · by_cases hg : 0 ≤ T.frames[j].gen
      · obtain ⟨g, hg2⟩ : ∃ g : Nat, T.frames[j].gen = g := ⟨_, (Int.toNat_of_nonneg hg).symm⟩
        have hg3 : g < cs.length := by have := hgen _ (List.getElem_mem hj) hg; omega
        have hg4 : g < s.cells.length := by omega
        obtain ⟨a, b, hab, -⟩ := hCe.row g hg3
        have hCb := hCe.blk
        obtain ⟨hC3, hab2⟩ := List.getElem?_eq_some_iff.1 hab
        rw [ceR] at hab2
        simp [q0, htb, hFb, hFl, hFr, hwj, w0, ht0, hg2, hCb, hC3, hab2, hg4, z1, z2, z3, z4, z5, z6, z7, z8, z9, z10, z11, e7]
        intro _
        have hN1 := hCe.num kA.c hg3 2 hab
        refine ⟨by omega, ⟨j, (H2.set nC (some ⟨.c 48, 4, CR2.set g [.d (eI cs[g].kind), .d (eI 2), a, b]⟩)).set (n1 + 1 + 1) (some ⟨.c 56, 5, [[.own nF 8 j, .d (eI 0), .d (eI 0), .d (eI T.val.kind), .d (eI T.val.n)]]⟩), n2 + 1, cs.set g ⟨cs[g].kind, 2, cs[g].vals, cs[g].frames⟩, _⟩, Nat.lt_succ_self j, ⟨Nat.le_of_lt hj, ?_, ?_, by simpa using hlen, hN1.low (fun q hq => Hp.set_ne _ _ (by have := gN q hq; omega)) (Hp.set_ne _ _ (by omega)), Hp.set_same _ _ _, fun i h1 h2 => by show Hp.set _ _ _ _ = _; rw [Hp.set_ne _ _ (by omega), Hp.set_ne _ _ h2]; exact hlow i h1 h2, by simp only; omega, (hsol.set hN1.new.sol).set (by simp), fun i hi => by show Hp.set _ _ _ _ = _; simp only at hi; rw [Hp.set_ne _ _ (by omega), Hp.set_ne _ _ (by omega)]; exact hhigh i (by omega)⟩, (Wk.sub (by simp)).trans (Wk.heap ?_)⟩
        · rw [← hcatch, catchN, if_pos (by rw [hget]; exact ht0)]
        · rw [← hdone, dropG, if_pos (by rw [hget]; exact ht0), hget, if_pos hg, List.singleton_append, ← doneL_cons hg]
          have : T.frames[j].gen.toNat = g := by omega
          rw [this]
          simp [List.getD_eq_getElem?_getD, hg3]
        · intro i y hy
          simp only at hy
          by_cases i1 : i = n1 + 1 + 1
          · subst i1; rw [Hp.set_same] at hy ⊢; exact hy
          rw [Hp.set_ne _ _ i1] at hy ⊢
          by_cases i2 : i = nC
          · subst i2; rw [Hp.set_same] at hy ⊢; exact hy
          rw [Hp.set_ne _ _ i2] at hy ⊢
          rw [Hp.set_ne _ _ (fun e => by subst e; rw [hhigh _ (Nat.le_refl _)] at hy; cases hy)]; exact hy
      · simp [q0, htb, hFb, hFl, hFr, hwj, w0, ht0, hg, z1, z2, z3, z4, z5, z6, z7, z8, z9, z10, z11, e7]
        intro _
        refine ⟨by omega, ⟨j, H2.set (n1 + 1 + 1) (some ⟨.c 56, 5, [[.own nF 8 j, .d (eI 0), .d (eI 0), .d (eI T.val.kind), .d (eI T.val.n)]]⟩), n2 + 1, cs, CR2⟩, Nat.lt_succ_self j, ⟨Nat.le_of_lt hj, ?_, ?_, hlen, hCe.low (fun q hq => Hp.set_ne _ _ (by have := gN q hq; omega)) (Hp.set_ne _ _ (by omega)), Hp.set_same _ _ _, fun i h1 h2 => by show Hp.set _ _ _ _ = _; rw [Hp.set_ne _ _ (by omega)]; exact hlow i h1 h2, by simp only; omega, hsol.set (by simp), fun i hi => by show Hp.set _ _ _ _ = _; simp only at hi; rw [Hp.set_ne _ _ (by omega)]; exact hhigh i (by omega)⟩, (Wk.sub (by simp)).trans (Wk.heap ?_)⟩
        · rw [← hcatch, catchN, if_pos (by rw [hget]; exact ht0)]
        · rw [← hdone, dropG, if_pos (by rw [hget]; exact ht0), hget, if_neg hg, List.nil_append]
        · intro i y hy
          simp only at hy
          by_cases i1 : i = n1 + 1 + 1
          · subst i1; rw [Hp.set_same] at hy ⊢; exact hy
          rw [Hp.set_ne _ _ i1] at hy ⊢
          rw [Hp.set_ne _ _ (fun e => by subst e; rw [hhigh _ (Nat.le_refl _)] at hy; cases hy)]; exact hy
    · obtain ⟨m, hm⟩ : ∃ m, T.frames[j].tries.length = m + 1 := ⟨_, (Nat.succ_pred_eq_of_pos (List.length_pos_iff.2 ht0)).symm⟩
      have hm2 := hlt _ (List.getElem_mem hj)
      have hwt : IntKind.i64.wrap (m : Int) = m := wrap_id (by omega) (by omega)
      obtain ⟨ys, hys⟩ := (hF2.tries j hj).2
      have htN := (hF2.tries j hj).1
      have hre := hF2.regs j hj
      obtain ⟨k1, k2⟩ := hreg _ (List.getElem_mem hj) ht0
      have hy : T.frames[j].tries[m] = lastTry T.frames[j].tries := by simp [lastTry, hm, List.getD_eq_getElem?_getD]
      rw [← hy] at k1 k2
      rw [tryBlk] at hys
      rw [valBlk] at hre
      have hL : ((T.frames[j].tries ++ ys).map fun v => (eTry v).map C.d)[m]? = some [.d (eI T.frames[j].tries[m].reg), .d (eI T.frames[j].tries[m].at_)] := by
        rw [List.getElem?_map, List.getElem?_append_left (by omega), List.getElem?_eq_getElem (by omega)]; rfl
      generalize ((T.frames[j].tries ++ ys).map fun v => (eTry v).map C.d) = L at hys hL
      obtain ⟨hLl, hL2⟩ := List.getElem?_eq_some_iff.1 hL
      generalize T.frames[j].tries[m] = y at *
      obtain ⟨q, hq⟩ : ∃ q : Nat, y.reg = q := ⟨y.reg.toNat, by omega⟩
      have hq2 : q < T.frames[j].regs.length := by omega
      have t3 := gN _ htN
      have t3' := hNn _ htN
      have t6 := (kA.rs j hj).2.2.2
      have t7 : r j < n1 := fresh_lt high1 (kF.regs j hj)
      have t8 := l4 j hj
      have u1 : ¬ t j = n2 := by omega
      have u2 : ¬ t j = n2 + 1 := by omega
      have u3 : ¬ r j = n2 := by omega
      have u4 : ¬ r j = n2 + 1 := by omega
      have u5 : ¬ n2 = n2 + 1 := by omega
      have u6 : ¬ nx + 1 = n2 + 1 := by omega
      have u7 : ¬ n2 = r j := by omega
      have u8 : ¬ n1 + 1 + 1 = r j := by omega
      have u9 : ¬ nF = r j := fun e => t6 e.symm
      have u10 : ¬ nF = n2 + 1 := by omega
      have u11 : ¬ n1 + 1 + 1 = nF := by omega
      have u12 : ¬ n2 = nF := by omega
      have u13 : ¬ nx = r j := by omega
      have u14 : ¬ nx = nF := by omega
      have u15 : ¬ nx = n2 + 1 := by omega
      have u16 : ¬ nT = r j := fun e => (kA.rs j hj).2.2.1 e.symm
      have u17 : ¬ nT = nF := kA.tf
      have u18 : ¬ nT = n2 := by omega
      have u19 : ¬ nT = n2 + 1 := by omega
      have u20 : ¬ t j = nF := fun e => kA.f (by rw [← e]; exact htN)
      have u21 : ¬ n1 + 1 + 1 = n2 + 1 := by omega
      have u22 : ¬ n1 + 1 = n2 := by omega
      have u23 : ¬ n1 + 1 = r j := by omega
      have u24 : ¬ nx + 1 = r j := by omega
      have u25 : ¬ nx + 2 = r j := by omega
      have u26 : ¬ nx + 3 = r j := by omega
      have u27 : ¬ n1 = r j := by omega
      have u28 : ¬ nx + 1 = nF := by omega
      have u29 : ¬ nx + 2 = nF := by omega
      have u30 : ¬ nx + 3 = nF := by omega
      have u31 : ¬ n1 = nF := by omega
      have u32 : ¬ n1 + 1 = nF := by omega
      have u33 : ¬ nx + 2 = n2 := by omega
      have u34 : ¬ nx + 3 = n2 := by omega
      have u35 : ¬ n1 = n2 := by omega
      have u36 : ¬ nx + 2 = n2 + 1 := by omega
      have u37 : ¬ nx + 3 = n2 + 1 := by omega
      have u38 : ¬ n1 = n2 + 1 := by omega
      have u39 : ¬ n1 + 1 = n2 + 1 := by omega
      have u40 : ¬ n1 = n1 + 1 + 1 := by omega
      have u41 : ¬ nT = n1 + 1 + 1 := by omega
      have u42 : ¬ n1 + 1 = nT := by omega
      simp [q0, q1, q2, q3, q4, q5, q6, htb, hFb, hFl, hFr, hwj, w0, hm, hwt, hys, hLl, hL2, hre, hq, hq2, hth, hTb2, hTr, z1, z2, z3, z4, z5, z7, e7, e8, e9, e10, f1, f2, f3, f4, f5, f6, f7, u1, u2, u3, u4, u5, u6, u7, u8, u9, u10, u11, u12, u13, u14, u15, u16, u17, u18, u19, u20, u21, u22, u23, u24, u25, u26, u27, u28, u29, u30, u31, u32, u33, u34, u35, u36, u37, u38, u39, u40, u41, u42, e0, e1, e2, e3, e11, e12, e13, e14]
      intro _ _
      refine ⟨by omega, ?_⟩
      have u43 : ¬ n1 + 1 = n2 + 1 + 1 := by omega
      have u44 : ¬ nx + 3 = n2 + 1 + 1 := by omega
      have u45 : ¬ nx + 3 = n2 + 1 + 1 + 1 := by omega
      have u46 : ¬ nx = n2 + 1 + 1 := by omega
      have u47 : ¬ nx = n2 + 1 + 1 + 1 := by omega
      have v1 : ¬ n1 + 1 = nT := by omega
      with_reducible refine ⟨?_, ?_⟩
      all_goals
        refine evTold_ok e 8 0 0 v ⟨0, 0⟩ ?_
        simp [q0, q1, q2, q3, q4, q5, q6, evRow, z1, z2, z3, z4, z5, z7, e7, e8, e9, e10, f1, f2, f3, f4, f5, f6, f7, u1, u2, u3, u4, u5, u6, u7, u8, u9, u10, u11, u12, u13, u14, u15, u16, u17, u18, u19, u20, u21, u22, u23, u24, u25, u26, u27, u28, u29, u30, u31, u32, u33, u34, u35, u36, u37, u38, u39, u40, u41, u42, u43, u44, u45, u46, u47, v1, e0, e1, e2, e3, e11, e12, e13, e14]
        rw [show (⟨.c 50, 2, (List.map (fun v => [C.d (eI v.kind), C.d (eI v.n)]) T.frames[j].regs).set q [C.d (eI v.kind), C.d (eI v.n)]⟩ : Blk) = valBlk (T.frames[j].regs.set q v) by simp [valBlk, List.map_set]]
        have aL : ∀ i, i < n2 → (((H2.set n2 (some ⟨.c 61, 8, [[.d (eI T.frames[j].fn), .d (eI T.frames[j].at_), .d (eI T.frames[j].to), .d (eI T.frames[j].gen), .d (eI T.frames[j].self.kind), .d (eI T.frames[j].self.n), .own (r j) 2 T.frames[j].regs.length, .own (t j) 2 (m + 1)]]⟩)).set (n2 + 1) (some ⟨.c 81, 2, [[.d (eI q), .d (eI y.at_)]]⟩)).set n2 (some ⟨.c 61, 8, [[.d (eI T.frames[j].fn), .d (eI y.at_), .d (eI T.frames[j].to), .d (eI T.frames[j].gen), .d (eI T.frames[j].self.kind), .d (eI T.frames[j].self.n), .own (r j) 2 T.frames[j].regs.length, .own (t j) 2 m]]⟩)) i = H2 i := fun i hi => by rw [Hp.set_ne _ _ (by omega), Hp.set_ne _ _ (by omega), Hp.set_ne _ _ (by omega)]
        have aS : HSol (((H2.set n2 (some ⟨.c 61, 8, [[.d (eI T.frames[j].fn), .d (eI T.frames[j].at_), .d (eI T.frames[j].to), .d (eI T.frames[j].gen), .d (eI T.frames[j].self.kind), .d (eI T.frames[j].self.n), .own (r j) 2 T.frames[j].regs.length, .own (t j) 2 (m + 1)]]⟩)).set (n2 + 1) (some ⟨.c 81, 2, [[.d (eI q), .d (eI y.at_)]]⟩)).set n2 (some ⟨.c 61, 8, [[.d (eI T.frames[j].fn), .d (eI y.at_), .d (eI T.frames[j].to), .d (eI T.frames[j].gen), .d (eI T.frames[j].self.kind), .d (eI T.frames[j].self.n), .own (r j) 2 T.frames[j].regs.length, .own (t j) 2 m]]⟩)) := ((hsol.set (by simp)).set (by simp)).set (by simp)
        refine ⟨fun m' b em hb => ?_, ?_⟩
        · subst em
          rw [if_neg (by omega), if_neg (by omega), if_neg (by omega), if_neg (by omega), if_neg (by omega), if_neg (by omega), if_neg (by omega), q5] at hb
          cases hb
          exact ⟨rfl, rfl⟩
        generalize ((H2.set n2 (some ⟨.c 61, 8, [[.d (eI T.frames[j].fn), .d (eI T.frames[j].at_), .d (eI T.frames[j].to), .d (eI T.frames[j].gen), .d (eI T.frames[j].self.kind), .d (eI T.frames[j].self.n), .own (r j) 2 T.frames[j].regs.length, .own (t j) 2 (m + 1)]]⟩)).set (n2 + 1) (some ⟨.c 81, 2, [[.d (eI q), .d (eI y.at_)]]⟩)).set n2 (some ⟨.c 61, 8, [[.d (eI T.frames[j].fn), .d (eI y.at_), .d (eI T.frames[j].to), .d (eI T.frames[j].gen), .d (eI T.frames[j].self.kind), .d (eI T.frames[j].self.n), .own (r j) 2 T.frames[j].regs.length, .own (t j) 2 m]]⟩) = A at *
        have hmin : (T.frames.take (j + 1)).length = j + 1 := by simp; omega
        have hjk : j < (T.frames.take (j + 1)).length := by omega
        have hget2 : (T.frames.take (j + 1))[j] = T.frames[j] := List.getElem_take
        have F1 : FsAt A N nF r t (T.frames.take (j + 1)) FR := (hF2.take (j + 1)).low (fun q hq => aL q (by have := gN q hq; omega)) (aL _ (by omega)) fun i hi => aL _ (by have := fresh_lt high1 (kF.regs i (by rw [hmin] at hi; omega)); omega)
        have F2 := F1.reg (k := j) hjk (kA.less (by rw [hmin]; exact hj)) (T.frames[j].regs.set q v) (by simp [hget2])
        have hcf : catchF T.frames[j] v = ⟨T.frames[j].fn, y.at_, T.frames[j].to, T.frames[j].gen, T.frames[j].self, T.frames[j].regs.set q v, T.frames[j].tries.take m⟩ := by
          unfold catchF
          rw [← hy, hq, hm]
          rfl
        have F3 := F2.fr (k := j) (by simp; omega) (kA.less (by simp; omega)) (catchF T.frames[j] v) (by rw [hcf]; simp) ⟨T.frames[j].tries.drop m, by rw [hcf]; simp [hget2]⟩ (e := [.d (eI T.frames[j].fn), .d (eI y.at_), .d (eI T.frames[j].to), .d (eI T.frames[j].gen), .d (eI T.frames[j].self.kind), .d (eI T.frames[j].self.n), .own (r j) 2 T.frames[j].regs.length, .own (t j) 2 m]) (by rw [hcf]; simp [frRow, hm])
        simp only [List.set_set] at F3
        have hct : catchN T.frames T.frames.length = some j := by rw [← hcatch, catchN, if_neg (by rw [hget]; exact ht0)]
        have htT : throwT T v = ⟨(T.frames.take (j + 1)).set j (catchF T.frames[j] v), 0, 0, T.val⟩ := by unfold throwT; rw [hct]; simp only [hget]
        have hcs : cs = doneL (dropG T.frames T.frames.length) s.cells := by rw [← hdone, dropG, if_neg (by rw [hget]; exact ht0)]; exact doneL_nil.symm
        have bL : ∀ i, i < n2 → i ≠ r j → i ≠ nF → ((A.set (r j) (some (valBlk (T.frames[j].regs.set q v)))).set nF (some ⟨.c 61, 8, FR.set j [.d (eI T.frames[j].fn), .d (eI y.at_), .d (eI T.frames[j].to), .d (eI T.frames[j].gen), .d (eI T.frames[j].self.kind), .d (eI T.frames[j].self.n), .own (r j) 2 T.frames[j].regs.length, .own (t j) 2 m]⟩)) i = H2 i := fun i h1 h2 h3 => by rw [Hp.set_ne _ _ h3, Hp.set_ne _ _ h2]; exact aL i h1
        have bS : HSol ((A.set (r j) (some (valBlk (T.frames[j].regs.set q v)))).set nF (some ⟨.c 61, 8, FR.set j [.d (eI T.frames[j].fn), .d (eI y.at_), .d (eI T.frames[j].to), .d (eI T.frames[j].gen), .d (eI T.frames[j].self.kind), .d (eI T.frames[j].self.n), .own (r j) 2 T.frames[j].regs.length, .own (t j) 2 m]⟩)) := (aS.set (valBlk_sol _)).set F3.new.sol
        generalize (A.set (r j) (some (valBlk (T.frames[j].regs.set q v)))).set nF (some ⟨.c 61, 8, FR.set j [.d (eI T.frames[j].fn), .d (eI y.at_), .d (eI T.frames[j].to), .d (eI T.frames[j].gen), .d (eI T.frames[j].self.kind), .d (eI T.frames[j].self.n), .own (r j) 2 T.frames[j].regs.length, .own (t j) 2 m]⟩) = B at *
        have nF1 : ∀ q, N q → q ≠ nF := fun q hq e => kA.f (by rw [← e]; exact hq)
        have nR1 : ∀ q, N q → q ≠ r j := fun q hq e => (kA.rs j hj).1 (by rw [← e]; exact hq)
        have nT1 : ∀ q, N q → q ≠ nT := fun q hq e => kA.tn (by rw [← e]; exact hq)
        have T5 := (hT2.low (H' := B) (fun q hq => bL q (by have := gN q hq; omega) (nR1 q hq) (nF1 q hq)) (bL _ (by omega) u16 u17)).set kA.tn hth ⟨(T.frames.take (j + 1)).set j (catchF T.frames[j] v), 0, 0, T.val⟩ (e := [.own nF 8 (j + 1), .d (eI 0), .d (eI 0), .d (eI T.val.kind), .d (eI T.val.n)]) (by simp [thR]; omega)
        obtain ⟨o1, o2, o3, o4⟩ := kO
        refine ⟨⟨o1.sol, o2.sol, o3.sol, o4.sol⟩, ?_⟩
        refine fin2 _ (n2 + 2) CR2 _ _ 8 (by rw [endK, hct]) (by omega) (bS.set T5.new.sol) ?_ (by rw [htT]; exact T5) (by rw [htT]; exact F3.low (fun q hq => Hp.set_ne _ _ (nT1 q hq)) (Hp.set_ne _ _ (fun e => kA.tf e.symm)) fun i hi => Hp.set_ne _ _ (kA.rs i (by simp at hi; omega)).2.2.1) (fun q hq => ?_) fun i hi => ?_
        · rw [← hcs]
          exact (hCe.low (H' := B) (fun q hq => bL q (by have := gN q hq; omega) (nR1 q hq) (nF1 q hq)) (bL _ (by omega) (fun e => (kA.rs j hj).2.1 e.symm) kA.cf)).low (fun q hq => Hp.set_ne _ _ (nT1 q hq)) (Hp.set_ne _ _ kA.ct)
        · rw [Hp.set_ne _ _ (nT1 q hq), bL q (by have := gN q hq; omega) (nR1 q hq) (nF1 q hq), hlow q (gN q hq) (nC1 q hq), lowN q hq]
        · rw [Hp.set_ne _ _ (by omega), bL i (by omega) (by omega) (by omega), hlow i (by omega) (by omega), b1 i (by omega) (by omega)]; exact low2 i hi
theorem thrown_ok (s : GState) (hz : Sized s) (th : Nat) (v : GVal) (e : GEvent) (hth : th < s.threads.length) (he : e.a = 0 ∧ e.b = 0 ∧ e.old = ⟨0, 0⟩) (hne : (s.threads.getD th dThread).frames ≠ [])
    (hreg : ∀ f ∈ (s.threads.getD th dThread).frames, f.tries ≠ [] → 0 ≤ (lastTry f.tries).reg ∧ (lastTry f.tries).reg < f.regs.length) (hgen : ∀ f ∈ (s.threads.getD th dThread).frames, 0 ≤ f.gen → f.gen < s.cells.length) (hl : (s.threads.getD th dThread).frames.length ≤ 30) (hlt : ∀ f ∈ (s.threads.getD th dThread).frames, f.tries.length ≤ 1000)
    {H : Hp} {nx : Nat} (hS : HSol H) {K : D → Hp → Nat → Prop} (h : K (.tup [aD (eState (throwS s th v)), dL true ((throwEv (s.threads.getD th dThread).frames e v).map eEvent)]) H nx) :
    ICall Tryz.prog 37 [aD (eState s), dI th, aD (eVal v), aD (eEvent e)] H nx K := by
  refine ICall.fresh (by kernel_rfl) fun hfr => ?_
  refine ICall.give hfr (thrown_ic s hz th v e hth he hne hreg hgen hl hlt hS fun H' nx' N R eo hn low sol hN hR hE => ⟨low, _, ?_, h⟩)
  exact ⟨CsS.csShw (hR.low fun q hq => ⟨hN q hq, rfl⟩), ⟨_, rfl, hE.wide hN⟩, trivial⟩
theorem unwindSays_ok (p : GProg) (hp : okP p) (s : GState) (hs : okSt s) (th : Int) (v : GVal) : DPure Tryz.prog 7 [aD (eProg p), aD (eState s), dI th, aD (eVal v)] fun d _ => d = dB true := by
  refine fn_ok [0,1,2,3,4,5,7,8,9,10,11,12,13,14,27,30,38,47,53] [(12, [0,0,0,0,0,0,56,127,255,511,511,0,3071,8191], (.seg 0 (.seg 1 (.seg 2 (.seg 3 (.seg 4 (.seg 5 (.fork 6 [0, 2] (.fork 7 [] (.seg 8 (.seg 9 (.seg 10 (.eff 11 [] (.eff 12 [] (.seg 13 .last)))))) (.eff 11 [0, 2] (.eff 7 [] (.seg 8 (.seg 9 (.seg 10 (.eff 12 [] (.seg 13 .last)))))))) (.eff 11 [0, 2, 3, 4] (.eff 6 [0, 2] (.eff 7 [] (.seg 8 (.seg 9 (.seg 10 (.eff 12 [] (.seg 13 .last))))))))))))))))] Tryz.func7 rfl (by kernel_rfl) rfl rfl rfl rfl (by kernel_rfl) ?_
  simp
  have hsol : HSol (((Hp.none.set 0 (some ⟨.c 26, 3, [(eProg p).map .d]⟩)).set 1 (some ⟨.c 32, 8, [(eState s).map .d]⟩)).set 2 (some ⟨.c 50, 2, [[.d (eI v.kind), .d (eI v.n)]]⟩)) := by
    refine HSol.set (HSol.set (HSol.set HSol.zero ?_) ?_) ?_ <;> simp
  by_cases q1 : stateQ wordsT p s = 0
  case neg =>
    have q2 : throwE p s th v = stateQ wordsT p s := by unfold throwE; rw [if_pos q1]
    refine throw_ok p hp s hs th v hsol (fun _ => ?_) (fun h1 => absurd h1 (by rw [q2]; exact q1))
    rw [q2]
    simp
    refine stateFault_ok p hp s hs ?_
    simp [q1]
    refine DPure.args (no_arg (es := (eState noS).map .d) ⟨.inr ⟨rfl, rfl⟩, .inr ⟨rfl, rfl⟩, .inr ⟨rfl, rfl⟩, .inr ⟨rfl, rfl⟩, .inr ⟨rfl, rfl⟩, .inr ⟨rfl, rfl⟩, .inl rfl, .inl rfl, trivial⟩) ?_
    refine sameStates_ok noS noS ?_
    simp
  refine throw_ok p hp s hs th v hsol (fun h0 => ?_) (fun h1 => ?_)
  · simp
    refine stateFault_ok p hp s hs ?_
    simp [q1]
    intro _
    refine between_ok _ _ _ ?_
    rw [wrap_id (by have := (sized_of q1).threads; omega) (by have := (sized_of q1).threads; omega)]
    by_cases c1 : th < 0 ∨ (s.threads.length : Int) ≤ th
    · have hb : btw th 0 ((s.threads.length : Int) - 1) = false := by simp [btw]; omega
      have q2 : throwE p s th v = 5 := by unfold throwE; rw [if_neg (by simpa using q1), if_pos c1]
      rw [hb]
      simp [q2]
      refine DPure.args (no_arg (es := (eState noS).map .d) ⟨.inr ⟨rfl, rfl⟩, .inr ⟨rfl, rfl⟩, .inr ⟨rfl, rfl⟩, .inr ⟨rfl, rfl⟩, .inr ⟨rfl, rfl⟩, .inr ⟨rfl, rfl⟩, .inl rfl, .inl rfl, trivial⟩) ?_
      refine sameStates_ok noS noS ?_
      simp
    have hb : btw th 0 ((s.threads.length : Int) - 1) = true := by simp [btw]; omega
    rw [hb]
    obtain ⟨t, rfl⟩ : ∃ t : Nat, th = t := ⟨th.toNat, by omega⟩
    have ht : t < s.threads.length := by omega
    have hd : s.threads.getD t dThread = s.threads[t] := by simp [List.getD_eq_getElem?_getD, ht]
    have q3 : throwE p s t v = if s.threads[t].frames = [] then 8 else if fitsB s v = true then 0 else 1 := by unfold throwE; rw [if_neg (by simpa using q1), if_neg c1, Int.toNat_natCast, hd]
    by_cases c3 : s.threads[t].frames = []
    · have q4 : throwE p s t v = 8 := by rw [q3, if_pos c3]
      simp [ht, c3, q4]
      refine DPure.args (no_arg (es := (eState noS).map .d) ⟨.inr ⟨rfl, rfl⟩, .inr ⟨rfl, rfl⟩, .inr ⟨rfl, rfl⟩, .inr ⟨rfl, rfl⟩, .inr ⟨rfl, rfl⟩, .inr ⟨rfl, rfl⟩, .inl rfl, .inl rfl, trivial⟩) ?_
      refine sameStates_ok noS noS ?_
      simp
    have c4 : fitsB s v = false := by
      cases hf : fitsB s v with
      | false => rfl
      | true => rw [q3, if_neg c3, if_pos hf] at h0; exact absurd rfl h0
    have q4 : throwE p s t v = 1 := by rw [q3, if_neg c3, c4]; rfl
    simp [ht, c3, q4]
    intro _
    refine fitsIn_ok s v ?_
    simp [c4]
    refine DPure.args (no_arg (es := (eState noS).map .d) ⟨.inr ⟨rfl, rfl⟩, .inr ⟨rfl, rfl⟩, .inr ⟨rfl, rfl⟩, .inr ⟨rfl, rfl⟩, .inr ⟨rfl, rfl⟩, .inr ⟨rfl, rfl⟩, .inl rfl, .inl rfl, trivial⟩) ?_
    refine sameStates_ok noS noS ?_
    simp
  · have h2 := h1
    unfold throwE at h2
    rw [if_neg (by simpa using q1)] at h2
    by_cases c1 : th < 0 ∨ (s.threads.length : Int) ≤ th
    · rw [if_pos c1] at h2; cases h2
    rw [if_neg c1] at h2
    obtain ⟨t, rfl⟩ : ∃ t : Nat, th = t := ⟨th.toNat, by omega⟩
    have ht : t < s.threads.length := by omega
    have hd : s.threads.getD t dThread = s.threads[t] := by simp [List.getD_eq_getElem?_getD, ht]
    rw [Int.toNat_natCast, hd] at h2
    by_cases c3 : s.threads[t].frames = []
    · rw [if_pos c3] at h2; cases h2
    rw [if_neg c3] at h2
    have c4 : fitsB s v = true := by
      cases hf : fitsB s v with
      | true => rfl
      | false => rw [hf] at h2; cases h2
    have hb : btw (t : Int) 0 ((s.threads.length : Int) - 1) = true := by simp [btw]; omega
    have hz := sized_of q1
    obtain ⟨b1, b2⟩ := state_thread q1 (List.getElem_mem ht)
    have hp0 := (stateQ_iff.1 q1).1
    have hlast : lastF (s.threads.getD t dThread).frames ∈ s.threads[t].frames := by
      rw [hd, lastF]
      have := List.length_pos_iff.2 c3
      rw [List.getD_eq_getElem?_getD, List.getElem?_eq_getElem (by omega)]
      exact List.getElem_mem _
    obtain ⟨-, -, b3, b4, b5, b6⟩ := frame_bnd hp0 (thread_frames q1 (List.getElem_mem ht) hlast)
    rw [Int.toNat_natCast]
    simp
    refine stateFault_ok p hp s hs ?_
    simp [q1]
    intro _
    refine between_ok _ _ _ ?_
    rw [wrap_id (by have := hz.threads; omega) (by have := hz.threads; omega), hb]
    simp [ht, c3]
    intro _
    refine fitsIn_ok s v ?_
    simp [c4]
    have hthr : ∀ {H : Hp} {nx : Nat} {K : D → Hp → Nat → Prop}, HSol H → K (.tup [aD (eState (throwS s t v)), dL true ((throwL p s t v).map eEvent)]) H nx → ICall Tryz.prog 37 [aD (eState s), dI t, aD (eVal v), aD (eEvent (placeE p s t))] H nx K := fun hS h => by
      refine thrown_ok s hz t v (placeE p s t) ht ⟨rfl, rfl, rfl⟩ (by rw [hd]; exact c3) (by rw [hd]; exact fun f hf => thread_regs q1 (List.getElem_mem ht) hf) (by rw [hd]; exact fun f hf => thread_gens q1 (List.getElem_mem ht) hf) (by rw [hd]; exact b2) (by rw [hd]; exact fun f hf => by have := (frame_bnd hp0 (thread_frames q1 (List.getElem_mem ht) hf)).2.1; omega) hS ?_
      exact h
    with_reducible refine ⟨?_, ?_⟩
    all_goals
      refine eventAt_ok p s t ht (by have := hz.threads; omega) (by rw [hd]; exact c3) (by rw [hd]; omega) b3 b4 b5 b6 ?_
      simp
      repeat' (with_reducible refine And.intro ?_ ?_)
      all_goals
        refine hthr ?_ ?_
        · repeat' (first | exact HSol.zero | refine HSol.set ?_ (by simp))
        simp
        refine sameStates_ok (throwS s t v) (throwS s t v) ?_
        simp
        refine sameEvents_ok true true (throwL p s t v) (throwL p s t v) ?_
        simp
end Go.Proofs.YtjbkinmdcaegcaaGreatDoor
