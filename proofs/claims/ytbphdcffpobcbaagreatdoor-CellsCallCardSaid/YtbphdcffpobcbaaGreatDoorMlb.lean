/- Several texts in one. -/
import Derived.Test.YtbphdcffpobcbaaGreatDoorMk
import Derived.Test.YtbphdcffpobcbaaGreatDoorMo
import Derived.Test.YtbphdcffpobcbaaGreatDoorMkf
import Derived.Test.YtbphdcffpobcbaaGreatDoorMkk
import Derived.Test.YtbphdcffpobcbaaGreatDoorMla
set_option linter.unusedSimpArgs false
set_option linter.unusedVariables false
set_option maxRecDepth 100000
set_option maxHeartbeats 16000000
namespace Go.Proofs.YtbphdcffpobcbaaGreatDoor
open Go.RowKit Go
abbrev dCells (l : List GCell) : List (List C) := l.map fun c => (eCell c).map .d
abbrev cO (nC len : Nat) (s : GState) : List C := [.own nC 4 len, .d (.sl true (s.shapes.map eShape)), .d (.sl true (s.texts.map eStr)), .d (.sl true (s.threads.map eThread)), .d (.sl true (s.ends.map eEnd)), .d (.sl true (s.said.map eVal)), .d (eI s.asked), .d (eI s.steps)]
theorem dCells_sol (l : List GCell) : ∀ e ∈ dCells l, ∀ c ∈ e, C.solidC c = true := fun e he c hc => by
  obtain ⟨x, -, rfl⟩ := List.mem_map.1 he
  simp [eCell] at hc
  rcases hc with rfl | rfl | rfl | rfl <;> rfl
theorem valsSet_ic (s : GState) (n : Nat) (hn : n < s.cells.length) (hl : s.cells.length ≤ 300) (v len : Nat) {H : Hp} {nx : Nat} (hSol : HSol H) {K : D → Hp → Nat → Prop}
    (h : ∀ H' : Hp, (∀ i, i < nx → H' i = H i) → HSol H' → H' (nx + 2) = some ⟨.c 75, 4, (dCells s.cells).set n [.d (eI s.cells[n].kind), .d (eI s.cells[n].num), .own v 2 len, .d (.sl true (s.cells[n].frames.map eFrame))]⟩ → K (.agg (cO (nx + 2) s.cells.length s)) H' (nx + 3)) :
    ICall Tryz.prog 32 [aD (eState s), dI n, .one (.own v 2 len)] H nx K := by
  refine ICall.fresh (by kernel_rfl) fun hfr => ?_
  have hn' : (n : Int) < (s.cells.length : Int) := by omega
  have fin : ∀ H' : Hp, HSol H' → (∀ i, i < nx → H' i = H i) → H' (nx + 2) = some ⟨.c 75, 4, (dCells s.cells).set n [.d (eI s.cells[n].kind), .d (eI s.cells[n].num), .own v 2 len, .d (.sl true (s.cells[n].frames.map eFrame))]⟩ → HSol H' ∧ K (.agg (cO (nx + 2) s.cells.length s)) H' (nx + 3) := fun H' h1 h2 h3 => ⟨h1, h H' h2 h1 h3⟩
  have g1 : (dCells s.cells)[n]? = some ((eCell s.cells[n]).map .d) := by simp [dCells, hn]
  obtain ⟨g2, g3⟩ := List.getElem?_eq_some_iff.1 g1
  refine fni_ok [0,1,2,3,6] [] Tryz.func32 rfl (by kernel_rfl) rfl rfl rfl rfl (by kernel_rfl) ?_
  simp [Nat.add_assoc, hn, hn']
  refine ⟨.inl (by omega), fin _ ?_ (fun i hi => ?_) ?_⟩
  · refine HSol.set (HSol.set (HSol.set (HSol.set (HSol.set (HSol.set hSol (by simp)) (by simp)) (dCells_sol s.cells)) (by simp)) ?_) (by simp)
    intro e he c hc
    rcases List.mem_or_eq_of_mem_set he with he | rfl
    · exact dCells_sol s.cells e he c hc
    · simp at hc
      rcases hc with rfl | rfl | rfl | rfl <;> rfl
  · repeat rw [Hp.set_ne _ _ (by omega)]
  · rw [Hp.set_ne _ _ (by omega), Hp.set_same]
    rfl
theorem cellMade_ic (s : GState) (hl : s.cells.length ≤ 300) (k n : Int) (cv : C) (hcv : C.solidC cv = true) {H : Hp} {nx : Nat} (hSol : HSol H) {K : D → Hp → Nat → Prop}
    (hbad : 300 ≤ s.cells.length → ∀ H' nx', nx ≤ nx' → (∀ i, i < nx → H' i = H i) → HSol H' → K (.tup [aD (eState s), aD (eVal nilG), dI 4]) H' nx')
    (h : ¬ 300 ≤ s.cells.length → ∀ (H' : Hp) nC nx', nx ≤ nC → nC < nx' → (∀ i, i < nx → H' i = H i) → HSol H' → H' nC = some ⟨.c 75, 4, dCells s.cells ++ [[.d (eI k), .d (eI n), cv, .d .emp]]⟩ → K (.tup [.agg (cO nC (s.cells.length + 1) s), aD (eVal ⟨5, s.cells.length⟩), dI (-1)]) H' nx') :
    ICall Tryz.prog 34 [aD (eState s), .agg [.d (eI k), .d (eI n), cv, .d .emp]] H nx K := by
  refine ICall.fresh (by kernel_rfl) fun hfr => ?_
  refine fni_ok [0,1,2,3,4,5,6,10] [(3, [0,0,2,7,0,16,63,127,255], (.seg 1 (.seg 2 (.fork 0 [1, 2] (.fork 3 [] (.eff 4 [] (.eff 5 [] (.eff 6 [] (.seg 7 (.eff 8 [] .last))))) (.eff 4 [1, 2] (.fork 3 [] (.eff 5 [] (.eff 6 [] (.seg 7 (.eff 8 [] .last)))) (.eff 5 [1, 2] (.eff 3 [] (.eff 6 [] (.seg 7 (.eff 8 [] .last)))))))) (.eff 4 [1, 2] (.fork 0 [1, 2] (.fork 3 [] (.eff 5 [] (.eff 6 [] (.seg 7 (.eff 8 [] .last)))) (.eff 5 [1, 2] (.eff 3 [] (.eff 6 [] (.seg 7 (.eff 8 [] .last)))))) (.eff 5 [1, 2] (.eff 0 [1, 2] (.eff 3 [] (.eff 6 [] (.seg 7 (.eff 8 [] .last)))))))))))), (4, [0,0,2,6,14,30,1,127,255], (.seg 0 (.seg 1 (.seg 2 (.seg 3 (.seg 4 (.seg 5 (.eff 6 [1, 2, 3, 4, 5] (.eff 7 [] (.seg 8 .last))))))))))] Tryz.func34 rfl (by kernel_rfl) rfl rfl rfl rfl (by kernel_rfl) ?_
  by_cases c1 : 300 ≤ s.cells.length
  · have c1' : s.cells.length = 300 := by omega
    have hb := hbad c1
    simp [Nat.add_assoc, c1']
    refine and_ofP ?_ fun hs => hb _ _ (by omega) (fun i hi => ?_) hs
    · refine HSol.set (HSol.set (HSol.set (HSol.set (HSol.set (HSol.set hSol (by simp)) (by simp [hcv])) (by simp)) (by simp)) (by simp)) (by simp)
    · repeat rw [Hp.set_ne _ _ (by omega)]
  have c1' : ¬ s.cells.length = 300 := by omega
  have c2' : ¬ (s.cells.length : Int) = 300 := by omega
  have fin : ∀ H' : Hp, HSol H' → (∀ i, i < nx → H' i = H i) → H' (nx + 6) = some ⟨.c 75, 4, dCells s.cells ++ [[.d (eI k), .d (eI n), cv, .d .emp]]⟩ → HSol H' ∧ K (.tup [.agg (cO (nx + 6) (s.cells.length + 1) s), aD (eVal ⟨5, s.cells.length⟩), dI (-1)]) H' (nx + 7) := fun H' h1 h2 h3 => ⟨h1, h c1 H' (nx + 6) (nx + 7) (by omega) (by omega) h2 h1 h3⟩
  have hrow : ∀ e ∈ dCells s.cells ++ [[.d (eI k), .d (eI n), cv, .d .emp]], ∀ c ∈ e, C.solidC c = true := fun e he c hc => by
    rcases List.mem_append.1 he with he | he
    · exact dCells_sol s.cells e he c hc
    · rw [List.mem_singleton] at he
      subst he
      simp at hc
      rcases hc with rfl | rfl | rfl | rfl <;> first | exact hcv | rfl
  have hw : IntKind.i64.wrap (s.cells.length : Int) = s.cells.length := wrap_id (by omega) (by omega)
  simp [Nat.add_assoc, c1', c2', hw]
  intro _
  repeat' (first
    | (refine fin _ ?_ (fun i hi => ?_) ?_)
    | (show HSol _; (repeat' (first | exact hSol | exact hrow | exact dCells_sol s.cells | (refine HSol.set ?_ ?_) | refine hsolN ?_ | (simp [hcv]; done))); done)
    | (apply And.intro) | (intro m b hm hb) | (intro _))
  all_goals first
    | exact .inl (by omega)
    | (subst hm; simp at hb; subst hb; rfl)
    | ((repeat rw [Hp.set_ne _ _ (by omega)]); done)
    | ((repeat (first | rw [Hp.set_same] | rw [Hp.set_ne _ _ (by omega)])); done)
    | ((repeat (first | rw [Hp.set_same] | rw [Hp.set_ne _ _ (by omega)])); simp [Function.comp_def]; done)
    | ((repeat (first | rw [Hp.set_same] | rw [Hp.set_ne _ _ (by omega)])); trace_state)
theorem textMade_ok (s : GState) (hl : s.texts.length ≤ 300) (t : ByteArray) {K : D → List Blk → Prop}
    (h1 : ∀ k : Nat, idxQ s.texts t = k → K (.tup [aD (eState s), aD (eVal ⟨4, k⟩), dI (-1)]) [])
    (h2 : ¬ 0 ≤ idxQ s.texts t → 300 ≤ s.texts.length ∨ 200 < t.size → K (.tup [aD (eState s), aD (eVal nilG), dI 4]) [])
    (h3 : ¬ 0 ≤ idxQ s.texts t → ¬ (300 ≤ s.texts.length ∨ 200 < t.size) → K (.tup [.agg [.d (.sl true (s.cells.map eCell)), .d (.sl true (s.shapes.map eShape)), .own 0 1 (s.texts.length + 1), .d (.sl true (s.threads.map eThread)), .d (.sl true (s.ends.map eEnd)), .d (.sl true (s.said.map eVal)), .d (eI s.asked), .d (eI s.steps)], aD (eVal ⟨4, s.texts.length⟩), dI (-1)]) [txtBlk (s.texts ++ [t])]) :
    DPure Tryz.prog 35 [aD (eState s), dS t] K := by
  refine fn_ok [0,1,2,4,5,6,7,8,10,11,12,13,19,32] [(10, [0,0,2,6,14,30,1,127,255], (.seg 0 (.seg 1 (.seg 2 (.seg 3 (.seg 4 (.seg 5 (.eff 6 [1, 2, 3, 4, 5] (.eff 7 [] (.seg 8 .last))))))))))] Tryz.func35 rfl (by kernel_rfl) rfl rfl rfl rfl (by kernel_rfl) ?_
  simp
  intro _
  refine loop_ok (ks := [0,1,2,4,5,6,7,8,10,11,12,13,19,32]) (pl := [(10, [0,0,2,6,14,30,1,127,255], (.seg 0 (.seg 1 (.seg 2 (.seg 3 (.seg 4 (.seg 5 (.eff 6 [1, 2, 3, 4, 5] (.eff 7 [] (.seg 8 .last))))))))))]) (n0 := 49) (fun x : {k : Nat // k ≤ s.texts.length ∧ ∀ j (_ : j < s.texts.length), j < k → t ≠ s.texts[j]} => [(12, dI x.1)]) (fun x => s.texts.length - x.1) ⟨0, by simp⟩ rfl (by kernel_rfl) (Wk.sub (by simp)) ?_
  rintro ⟨k, hk, ht⟩
  by_cases c : k < s.texts.length
  · have c' : (k : Int) < (s.texts.length : Int) := by omega
    simp [c, c']
    by_cases e : s.texts[k] = t
    · simp only [e, if_true]
      exact h1 k (idxQ_at c ht e.symm)
    · simp only [e, if_false]
      refine ⟨k + 1, by omega, ⟨by omega, fun j hj hjk => ?_⟩, Wk.sub (by simp [wrap_add (show k < 9223372036854775807 by omega)])⟩
      by_cases ej : j = k
      · subst ej; exact fun e2 => e e2.symm
      · exact ht j hj (by omega)
  · obtain rfl : k = s.texts.length := by omega
    have hn : idxQ s.texts t = -1 := idxQ_no fun j hj => ht j hj hj
    rw [hn] at h2 h3
    by_cases c1 : 300 ≤ s.texts.length
    · have c1' : s.texts.length = 300 := by omega
      have hb := h2 (by decide) (.inl c1)
      simp [c1']
      exact hb
    have c1' : ¬ s.texts.length = 300 := by omega
    have c1'' : ¬ (s.texts.length : Int) = 300 := by omega
    by_cases c2 : 200 < t.size
    · have c2' : (200 : Int) < (t.size : Int) := by omega
      have hb := h2 (by decide) (.inr c2)
      simp [c1', c1'', c2, c2']
      exact fun _ => hb
    have c2' : ¬ (200 : Int) < (t.size : Int) := by omega
    have hb := h3 (by decide) (by omega)
    have hw : IntKind.i64.wrap (s.texts.length : Int) = s.texts.length := wrap_id (by omega) (by omega)
    simp [c1', c1'', c2, c2', hw]
    refine fun _ => ⟨.inl (by omega), fun m b hm hb => ?_, .inl (by omega), fun _ => ?_⟩
    · subst hm
      simp at hb
      subst hb
      exact ⟨rfl, rfl⟩
    · rw [if_pos fun x hx c hc => by
        rcases List.mem_append.1 hx with hx | hx
        · obtain ⟨y, -, rfl⟩ := List.mem_map.1 hx
          simp at hc
          subst hc; rfl
        · rw [List.mem_singleton] at hx
          subst hx
          simp at hc
          subst hc; rfl]
      have e : List.map ((fun e => List.map C.d e) ∘ eStr) s.texts ++ [[C.d (eS t)]] = (txtBlk (s.texts ++ [t])).es := by simp [txtBlk, Function.comp_def]
      rw [e]
      exact hb
theorem heapAsked_ok (s : GState) (hs : okSt s) (S : Bool) (l : List GVal) {K : D → List Blk → Prop} (h : K (dB (askC s l)) []) : DPure Tryz.prog 7 [aD (eState s), dL S (l.map eVal)] K := by
  refine fn_ok [0,1,2,4,6,9,10,11,12,13,19] [] Tryz.func7 rfl (by kernel_rfl) rfl rfl rfl rfl (by kernel_rfl) ?_
  simp
  refine heapFault_ok s hs ?_
  by_cases c1 : cellsQ wordsT s = 0
  case neg =>
    have e : askC s l = false := by simp [askC, c1]
    rw [e] at h
    simp [c1]
    exact h
  simp [c1]
  intro _
  refine loopH_ok (ks := [0,1,2,4,6,9,10,11,12,13,19]) (pl := []) (n0 := 21) (α := {x : KR2 // x.k ≤ l.length ∧ 1 ≤ x.nx ∧ ∀ j (_ : j < l.length), j < x.k → fitsB s l[j] = true}) (fun x => [(12, dI x.1.k)]) (fun H _ => H) (fun x => x.1.nx) (fun x => l.length - x.1.k) ⟨⟨0, 1⟩, by simp, by simp, fun j _ h => absurd h (Nat.not_lt_zero _)⟩ rfl (by kernel_rfl) (Wk.sub (by simp)) ?_
  rintro ⟨⟨k, nx⟩, hk, hn, ht⟩
  simp only at hk hn ht
  by_cases h3 : k < l.length
  · have h3' : (k : Int) < (l.length : Int) := by omega
    have d0 : ¬ (0 : Nat) = nx := by omega
    simp [h3, h3', d0]
    refine fitsIn_ok s l[k] ?_
    cases hb : fitsB s l[k] with
    | false =>
      have e : askC s l = false := by
        rw [Bool.eq_false_iff]
        intro e
        have := (askC_iff.1 e).2 l[k] (List.getElem_mem h3)
        rw [hb] at this; cases this
      rw [e] at h
      simp
      exact h
    | true =>
      simp
      refine ⟨⟨k + 1, nx + 1⟩, by simp only; omega, ⟨by simp only; omega, by simp only; omega, fun j hj hjk => ?_⟩, (Wk.sub (by simp [wrap_add (show k < 9223372036854775807 by omega)])).trans (Wk.heap fun i y hy => ?_)⟩
      · by_cases ej : j = k
        · subst ej; exact hb
        · exact ht j hj (by simp only at hjk; omega)
      · have : i ≠ nx := fun e => by
          subst e
          rw [Hp.set_ne _ _ (by omega)] at hy
          cases hy
        rw [Hp.set_ne _ _ this]; exact hy
  · obtain rfl : k = l.length := by omega
    have e : askC s l = true := askC_iff.2 ⟨c1, fun v hv => by
      obtain ⟨j, hj, rfl⟩ := List.getElem_of_mem hv
      exact ht j hj hj⟩
    rw [e] at h
    simp
    exact h
theorem dV_sol (l : List GVal) : ∀ e ∈ List.map ((fun e => List.map C.d e) ∘ eVal) l, ∀ c ∈ e, C.solidC c = true := (valBlk_new l).sol
theorem cellsSet_shw {H : Hp} {nC : Nat} {s : GState} {n : Nat} (c' : GCell) {cv : C} (hC : H nC = some ⟨.c 75, 4, (dCells s.cells).set n [.d (eI c'.kind), .d (eI c'.num), cv, .d (.sl true (c'.frames.map eFrame))]⟩) (hv : Shw H (fun _ => True) cv (.sl true (c'.vals.map eVal))) :
    Shw H (fun _ => True) (.own nC 4 s.cells.length) (.sl true ((s.cells.set n c').map eCell)) := by
  refine Shw.rows trivial hC (by simp) (fun e he => by obtain ⟨x, -, rfl⟩ := List.mem_map.1 he; rfl) ?_
  rw [List.map_set]
  exact RsS.set (r := [.d (eI c'.kind), .d (eI c'.num), cv, .d (.sl true (c'.frames.map eFrame))]) (e := eCell c') ⟨.d rfl, .d rfl, hv, .d rfl, trivial⟩ (RsS.dat fun x d hd => by simp [eCell] at hd; rcases hd with rfl | rfl | rfl | rfl <;> rfl)
theorem cellsAdd_shw {H : Hp} {nC : Nat} {s : GState} (c' : GCell) {cv cf : C} (hC : H nC = some ⟨.c 75, 4, dCells s.cells ++ [[.d (eI c'.kind), .d (eI c'.num), cv, cf]]⟩) (hv : Shw H (fun _ => True) cv (.sl true (c'.vals.map eVal))) (hf : Shw H (fun _ => True) cf (.sl true (c'.frames.map eFrame))) :
    Shw H (fun _ => True) (.own nC 4 (s.cells.length + 1)) (.sl true ((s.cells ++ [c']).map eCell)) := by
  refine Shw.rows trivial hC (by simp) (fun e he => by obtain ⟨x, -, rfl⟩ := List.mem_map.1 he; rfl) ?_
  rw [List.map_append]
  exact RsS.app (RsS.dat fun x d hd => by simp [eCell] at hd; rcases hd with rfl | rfl | rfl | rfl <;> rfl) ⟨⟨.d rfl, .d rfl, hv, hf, trivial⟩, trivial⟩
theorem stateC_shw {H : Hp} {c1 c2 : C} {t s : GState} (h1 : Shw H (fun _ => True) c1 (.sl true (t.cells.map eCell))) (h2 : Shw H (fun _ => True) c2 (.sl true (t.shapes.map eShape))) (e : t.texts = s.texts ∧ t.threads = s.threads ∧ t.ends = s.ends ∧ t.said = s.said ∧ t.asked = s.asked ∧ t.steps = s.steps) :
    DShw H (fun _ => True) (.agg [c1, c2, .d (.sl true (s.texts.map eStr)), .d (.sl true (s.threads.map eThread)), .d (.sl true (s.ends.map eEnd)), .d (.sl true (s.said.map eVal)), .d (eI s.asked), .d (eI s.steps)]) (aD (eState t)) := by
  obtain ⟨e1, e2, e3, e4, e5, e6⟩ := e
  rw [← e1, ← e2, ← e3, ← e4, ← e5, ← e6]
  exact ⟨⟨_, rfl, h1⟩, ⟨_, rfl, h2⟩, ⟨_, rfl, .d rfl⟩, ⟨_, rfl, .d rfl⟩, ⟨_, rfl, .d rfl⟩, ⟨_, rfl, .d rfl⟩, ⟨_, rfl, .d rfl⟩, ⟨_, rfl, .d rfl⟩, trivial⟩
end Go.Proofs.YtbphdcffpobcbaaGreatDoor
