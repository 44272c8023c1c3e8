/- Several texts in one. -/
import Derived.Test.YtomhiphiogbbiaaGreatDoorMk
import Derived.Test.YtomhiphiogbbiaaGreatDoorMo
import Derived.Test.YtomhiphiogbbiaaGreatDoorMkf
import Derived.Test.YtomhiphiogbbiaaGreatDoorMkk
import Derived.Test.YtomhiphiogbbiaaGreatDoorMla
set_option linter.unusedSimpArgs false
set_option linter.unusedVariables false
set_option maxRecDepth 100000
set_option maxHeartbeats 16000000
namespace Go.Proofs.YtomhiphiogbbiaaGreatDoor
open Go.RowKit Go
abbrev dCells (l : List GCell) : List (List C) := l.map fun c => (eCell c).map .d
abbrev cO (nC len : Nat) (s : GState) : List C := [.own nC 4 len, .d (.sl true (s.shapes.map eShape)), .d (.sl true (s.texts.map eStr)), .d (.sl true (s.threads.map eThread)), .d (.sl true (s.ends.map eEnd)), .d (.sl true (s.said.map eVal)), .d (eI s.asked), .d (eI s.steps)]
theorem dCells_sol (l : List GCell) : ∀ e ∈ dCells l, ∀ c ∈ e, C.solidC c = true := fun e he c hc => by
  obtain ⟨x, -, rfl⟩ := List.mem_map.1 he
  simp [eCell] at hc
  rcases hc with rfl | rfl | rfl | rfl <;> rfl
theorem valsSet_ic (s : GState) (n : Nat) (hn : n < s.cells.length) (hl : s.cells.length ≤ 300) (v len : Nat) {H : Hp} {nx : Nat} (hSol : HSol H) {K : D → Hp → Nat → Prop}
    (h : ∀ H' : Hp, (∀ i, i < nx → H' i = H i) → HSol H' → H' (nx + 2) = some ⟨.c 43, 4, (dCells s.cells).set n [.d (eI s.cells[n].kind), .d (eI s.cells[n].num), .own v 2 len, .d (.sl true (s.cells[n].frames.map eFrame))]⟩ → K (.agg (cO (nx + 2) s.cells.length s)) H' (nx + 3)) :
    ICall Tryz.prog 71 [aD (eState s), dI n, .one (.own v 2 len)] H nx K := by
  refine ICall.fresh (by kernel_rfl) fun hfr => ?_
  have hn' : (n : Int) < (s.cells.length : Int) := by omega
  have fin : ∀ H' : Hp, HSol H' → (∀ i, i < nx → H' i = H i) → H' (nx + 2) = some ⟨.c 43, 4, (dCells s.cells).set n [.d (eI s.cells[n].kind), .d (eI s.cells[n].num), .own v 2 len, .d (.sl true (s.cells[n].frames.map eFrame))]⟩ → HSol H' ∧ K (.agg (cO (nx + 2) s.cells.length s)) H' (nx + 3) := fun H' h1 h2 h3 => ⟨h1, h H' h2 h1 h3⟩
  have g1 : (dCells s.cells)[n]? = some ((eCell s.cells[n]).map .d) := by simp [dCells, hn]
  obtain ⟨g2, g3⟩ := List.getElem?_eq_some_iff.1 g1
  refine fni_ok [0,1,2,3,6] [] Tryz.func71 rfl (by kernel_rfl) rfl rfl rfl rfl (by kernel_rfl) ?_
  simp [Nat.add_assoc, hn, hn']
  refine ⟨.inl (by omega), fin _ ?_ (fun i hi => ?_) ?_⟩
  · refine HSol.set (HSol.set (HSol.set (HSol.set (HSol.set (HSol.set hSol (by simp)) (by simp)) (dCells_sol s.cells)) (by simp)) ?_) (by simp)
    intro e he c hc
    rcases List.mem_or_eq_of_mem_set he with he | rfl
    · exact dCells_sol s.cells e he c hc
    · simp at hc
      rcases hc with rfl | rfl | rfl | rfl <;> rfl
  · repeat rw [Hp.set_ne _ _ (by omega)]
  · rw [Hp.set_ne _ _ (by omega), Hp.set_same]
    rfl
theorem heapAsked_ok (s : GState) (hs : okSt s) (S : Bool) (l : List GVal) {K : D → List Blk → Prop} (h : K (dB (askC s l)) []) : DPure Tryz.prog 15 [aD (eState s), dL S (l.map eVal)] K := by
  refine fn_ok [0,1,2,4,6,9,10,11,12,13,19] [] Tryz.func15 rfl (by kernel_rfl) rfl rfl rfl rfl (by kernel_rfl) ?_
  simp
  refine heapFault_ok s hs ?_
  by_cases c1 : cellsQ wordsT s = 0
  case neg =>
    have e : askC s l = false := by simp [askC, c1]
    rw [e] at h
    simp [c1]
    exact h
  simp [c1]
  intro _
  refine loopH_ok (ks := [0,1,2,4,6,9,10,11,12,13,19]) (pl := []) (n0 := 21) (α := {x : KR2 // x.k ≤ l.length ∧ 1 ≤ x.nx ∧ ∀ j (_ : j < l.length), j < x.k → fitsB s l[j] = true}) (fun x => [(12, dI x.1.k)]) (fun H _ => H) (fun x => x.1.nx) (fun x => l.length - x.1.k) ⟨⟨0, 1⟩, by simp, by simp, fun j _ h => absurd h (Nat.not_lt_zero _)⟩ rfl (by kernel_rfl) (Wk.sub (by simp)) ?_
  rintro ⟨⟨k, nx⟩, hk, hn, ht⟩
  simp only at hk hn ht
  by_cases h3 : k < l.length
  · have h3' : (k : Int) < (l.length : Int) := by omega
    have d0 : ¬ (0 : Nat) = nx := by omega
    simp [h3, h3', d0]
    refine fitsIn_ok s l[k] ?_
    cases hb : fitsB s l[k] with
    | false =>
      have e : askC s l = false := by
        rw [Bool.eq_false_iff]
        intro e
        have := (askC_iff.1 e).2 l[k] (List.getElem_mem h3)
        rw [hb] at this; cases this
      rw [e] at h
      simp
      exact h
    | true =>
      simp
      refine ⟨⟨k + 1, nx + 1⟩, by simp only; omega, ⟨by simp only; omega, by simp only; omega, fun j hj hjk => ?_⟩, (Wk.sub (by simp [wrap_add (show k < 9223372036854775807 by omega)])).trans (Wk.heap fun i y hy => ?_)⟩
      · by_cases ej : j = k
        · subst ej; exact hb
        · exact ht j hj (by simp only at hjk; omega)
      · have : i ≠ nx := fun e => by
          subst e
          rw [Hp.set_ne _ _ (by omega)] at hy
          cases hy
        rw [Hp.set_ne _ _ this]; exact hy
  · obtain rfl : k = l.length := by omega
    have e : askC s l = true := askC_iff.2 ⟨c1, fun v hv => by
      obtain ⟨j, hj, rfl⟩ := List.getElem_of_mem hv
      exact ht j hj hj⟩
    rw [e] at h
    simp
    exact h
theorem dV_sol (l : List GVal) : ∀ e ∈ List.map ((fun e => List.map C.d e) ∘ eVal) l, ∀ c ∈ e, C.solidC c = true := (valBlk_new l).sol
theorem Shw.shps {H : Hp} {N : Nat → Prop} {n : Nat} {l : List Shp} (hn : N n) (hx : H n = some (shpBlk l)) : Shw H N (.own n 2 l.length) (.sl true (l.map eShape)) := Shw.row hn hx rfl (by simp) (by simp [shpBlk, List.take_of_length_le]) (fun e he => by obtain ⟨x, -, rfl⟩ := List.mem_map.1 he; rfl) (fun e he d hd => by obtain ⟨x, -, rfl⟩ := List.mem_map.1 he; simp at hd; rcases hd with rfl | rfl <;> rfl)
theorem cellsSet_shw {H : Hp} {nC : Nat} {s : GState} {n : Nat} (c' : GCell) {cv : C} (hC : H nC = some ⟨.c 43, 4, (dCells s.cells).set n [.d (eI c'.kind), .d (eI c'.num), cv, .d (.sl true (c'.frames.map eFrame))]⟩) (hv : Shw H (fun _ => True) cv (.sl true (c'.vals.map eVal))) :
    Shw H (fun _ => True) (.own nC 4 s.cells.length) (.sl true ((s.cells.set n c').map eCell)) := by
  refine Shw.rows trivial hC (by simp) (fun e he => by obtain ⟨x, -, rfl⟩ := List.mem_map.1 he; rfl) ?_
  rw [List.map_set]
  exact RsS.set (r := [.d (eI c'.kind), .d (eI c'.num), cv, .d (.sl true (c'.frames.map eFrame))]) (e := eCell c') ⟨.d rfl, .d rfl, hv, .d rfl, trivial⟩ (RsS.dat fun x d hd => by simp [eCell] at hd; rcases hd with rfl | rfl | rfl | rfl <;> rfl)
theorem stateC_shw {H : Hp} {c1 c2 : C} {t s : GState} (h1 : Shw H (fun _ => True) c1 (.sl true (t.cells.map eCell))) (h2 : Shw H (fun _ => True) c2 (.sl true (t.shapes.map eShape))) (e : t.texts = s.texts ∧ t.threads = s.threads ∧ t.ends = s.ends ∧ t.said = s.said ∧ t.asked = s.asked ∧ t.steps = s.steps) :
    DShw H (fun _ => True) (.agg [c1, c2, .d (.sl true (s.texts.map eStr)), .d (.sl true (s.threads.map eThread)), .d (.sl true (s.ends.map eEnd)), .d (.sl true (s.said.map eVal)), .d (eI s.asked), .d (eI s.steps)]) (aD (eState t)) := by
  obtain ⟨e1, e2, e3, e4, e5, e6⟩ := e
  rw [← e1, ← e2, ← e3, ← e4, ← e5, ← e6]
  exact ⟨⟨_, rfl, h1⟩, ⟨_, rfl, h2⟩, ⟨_, rfl, .d rfl⟩, ⟨_, rfl, .d rfl⟩, ⟨_, rfl, .d rfl⟩, ⟨_, rfl, .d rfl⟩, ⟨_, rfl, .d rfl⟩, ⟨_, rfl, .d rfl⟩, trivial⟩
theorem putIn_ok (s : GState) (hq : cellsQ wordsT s = 0) (of which v : GVal) (ho : fitsB s of = true) {K : D → List Blk → Prop} (h : K (.tup [aD (eState (putW s of which v).1), dI (putW s of which v).2]) []) :
    DPure Tryz.prog 23 [aD (eState s), aD (eVal of), aD (eVal which), aD (eVal v)] K := by
  refine DPure.ofI ?_
  have hcl : s.cells.length ≤ 300 := by
    have := (cellsQ_iff.1 hq).1
    simp only [heapLarge, Bool.or_eq_false_iff, decide_eq_false_iff_not] at this
    omega
  have same : ∀ (X : Hp) (e : Int), HSol X → K (.tup [aD (eState s), dI e]) [] → HSol X ∧ ∃ d', DShw X (fun _ => True) (.tup [aD (eState s), dI e]) d' ∧ K d' [] := fun X e hx hk => ⟨hx, .tup [aD (eState s), dI e], ⟨CsS.csShw (CsS.dat (by simp)), ⟨_, rfl, .d rfl⟩, trivial⟩, hk⟩
  refine fni_ok [0,1,2,3,4,5,6,7,8,9,10,11,12,13,14,15,16,25,39,66] [(12, [0,0,2,0,0,16,56,127,255], (.seg 1 (.seg 3 (.seg 4 (.fork 0 [1, 4] (.fork 2 [4] (.eff 5 [4] (.eff 6 [] (.eff 7 [] (.eff 8 [] .last)))) (.eff 5 [1] (.fork 2 [] (.eff 6 [] (.eff 7 [] (.eff 8 [] .last))) (.eff 6 [1] (.eff 2 [] (.eff 7 [] (.eff 8 [] .last))))))) (.fork 2 [4] (.fork 0 [4] (.eff 5 [4] (.eff 6 [] (.eff 7 [] (.eff 8 [] .last)))) (.eff 5 [4] (.fork 0 [] (.eff 6 [] (.eff 7 [] (.eff 8 [] .last))) (.eff 6 [] (.eff 0 [] (.eff 7 [] (.eff 8 [] .last))))))) (.eff 5 [1] (.fork 0 [1] (.fork 2 [] (.eff 6 [] (.eff 7 [] (.eff 8 [] .last))) (.eff 6 [1] (.eff 2 [] (.eff 7 [] (.eff 8 [] .last))))) (.fork 2 [] (.fork 0 [] (.eff 6 [] (.eff 7 [] (.eff 8 [] .last))) (.eff 6 [] (.eff 0 [] (.eff 7 [] (.eff 8 [] .last))))) (.eff 6 [1] (.fork 0 [1] (.eff 2 [] (.eff 7 [] (.eff 8 [] .last))) (.eff 2 [] (.eff 0 [] (.eff 7 [] (.eff 8 [] .last)))))))))))))))] Tryz.func23 rfl (by kernel_rfl) rfl rfl rfl rfl (by kernel_rfl) ?_
  simp
  refine slotIn_ok s hq of which ho ?_
  simp
  by_cases q1 : 0 ≤ (slotW s of which).2
  · have e : putW s of which v = (s, (slotW s of which).2) := by unfold putW; rw [if_pos q1]
    rw [e] at h
    simp [q1]
    refine same _ _ ?_ h
    repeat' (first | exact HSol.nil | exact HSol.zero | refine HSol.set ?_ ?_ | (simp; done))
  obtain ⟨k5, hk⟩ := slot_kind ((slot_le of which).resolve_right q1)
  have hr := fits_ref ho
  obtain ⟨a1, a2⟩ := hr k5
  obtain ⟨n, hn⟩ : ∃ n : Nat, of.n = n := ⟨of.n.toNat, by omega⟩
  have hnl : n < s.cells.length := by omega
  have hat : cellAt s of.n = s.cells[n] := by rw [hn]; exact at_nat hnl
  have htn : of.n.toNat = n := by omega
  have hvl := (cell_vals hq hnl)
  have hv100 := hvl.2.1 (by rw [← hat]; omega)
  have hn' : (n : Int) < (s.cells.length : Int) := by omega
  simp [q1, hn, hnl, hn']
  by_cases q2 : 0 ≤ (slotW s of which).1
  · obtain ⟨k, hk0⟩ : ∃ k : Nat, (slotW s of which).1 = k := ⟨(slotW s of which).1.toNat, by omega⟩
    have hkl : k < s.cells[n].vals.length := slot_lt hq hnl (which := which) (by rw [← hat, ← hk0, slotW_eq, if_pos k5])
    have e : putW s of which v = (setCS s n ⟨s.cells[n].kind, s.cells[n].num, s.cells[n].vals.set k v, s.cells[n].frames⟩ s.shapes, -1) := by
      unfold putW
      rw [if_neg q1, if_pos q2, hat, htn, hk0, Int.toNat_natCast]
    rw [e] at h
    simp [hk0, hkl]
    refine ⟨.inl (by omega), ?_⟩
    have er : (List.map ((fun e => List.map C.d e) ∘ eVal) s.cells[n].vals).set k [C.d (eI v.kind), C.d (eI v.n)] = (valBlk (s.cells[n].vals.set k v)).es := by
      rw [valBlk, List.map_set]; rfl
    rw [er]
    refine valsSet_ic s n hnl hcl 6 _ ?_ fun H' low' sol' row' => ?_
    · repeat' (first | exact HSol.nil | exact HSol.zero | exact (valBlk_new _).sol | refine HSol.set ?_ ?_ | (simp; done))
    have g4 : H' 4 = some ⟨.c 29, 8, [[.d .emp, .d .emp, .d .emp, .d .emp, .d .emp, .d .emp, .d (eI 0), .d (eI 0)]]⟩ := by rw [low' _ (by omega)]; simp [Hp.set]
    have g6 : H' 6 = some (valBlk (s.cells[n].vals.set k v)) := by rw [low' _ (by omega)]; simp [Hp.set, valBlk]
    clear low'
    simp [g4]
    refine and_ofP (HSol.set sol' (by simp)) fun _ => ?_
    refine ⟨.tup [aD (eState (setCS s n ⟨s.cells[n].kind, s.cells[n].num, s.cells[n].vals.set k v, s.cells[n].frames⟩ s.shapes)), dI (-1)], ⟨stateC_shw (cellsSet_shw _ (by rw [Hp.set_ne _ _ (by omega)]; exact row') ?_) (.d rfl) ⟨rfl, rfl, rfl, rfl, rfl, rfl⟩, ⟨_, rfl, .d rfl⟩, trivial⟩, h⟩
    have := Shw.vals (H := H'.set 4 (some ⟨.c 29, 8, [cO 9 s.cells.length s]⟩)) (N := fun _ => True) (n := 6) (l := s.cells[n].vals.set k v) trivial (by rw [Hp.set_ne _ _ (by omega)]; exact g6)
    rw [List.length_set] at this
    exact this
  · simp [q2]
    refine ⟨.inl (by omega), ?_⟩
    obtain ⟨L1, q, e0, hw⟩ : ∃ a b c, withP s.shapes s.cells[n].num which.n = (a, b, c) := ⟨_, _, _, rfl⟩
    have badS : e0 ≠ 0 ∨ 100 ≤ s.cells[n].vals.length → putW s of which v = (s, 4) := fun hb => by
      unfold putW
      rw [if_neg q1, if_neg q2, hat, hw, if_pos hb]
    have okS : e0 = 0 → s.cells[n].vals.length < 100 → putW s of which v = (setCS s n ⟨s.cells[n].kind, q, s.cells[n].vals ++ [v], s.cells[n].frames⟩ L1, -1) := fun h1 h2 => by
      unfold putW
      rw [if_neg q1, if_neg q2, hat, hw, if_neg (by simp; omega), htn]
    refine shapeWithD_ok s.shapes _ _ (fun hb => ?_) (fun hb hold => ?_) (fun hb => ?_)
    · rw [hw] at hb ⊢
      simp only at hb
      rw [badS (.inl hb)] at h
      simp [hb]
      refine same _ _ ?_ h
      repeat' (first | exact HSol.nil | exact HSol.zero | exact dV_sol _ | refine HSol.set ?_ ?_ | (simp; done))
    · rw [hw] at hb hold ⊢
      simp only at hb hold
      subst hb
      by_cases h100 : s.cells[n].vals.length = 100
      · rw [badS (.inr (by omega))] at h
        simp [h100]
        refine same _ _ ?_ h
        repeat' (first | exact HSol.nil | exact HSol.zero | exact dV_sol _ | refine HSol.set ?_ ?_ | (simp; done))
      · rw [okS rfl (by omega)] at h
        have h100' : ¬ (s.cells[n].vals.length : Int) = 100 := by omega
        simp [h100, h100', hn, hnl, hn']
        refine fun _ => ⟨fun m b hm hb => ?_, .inl (by omega), ?_⟩
        · subst hm
          simp at hb
          subst hb
          exact ⟨rfl, rfl⟩
        have er : List.map ((fun e => List.map C.d e) ∘ eVal) s.cells[n].vals ++ [[C.d (eI v.kind), C.d (eI v.n)]] = (valBlk (s.cells[n].vals ++ [v])).es := by simp [valBlk, Function.comp_def]
        have el : s.cells[n].vals.length + 1 = (s.cells[n].vals ++ [v]).length := by simp
        rw [er, el]
        refine valsSet_ic s n hnl hcl 8 _ ?_ fun H' low' sol' row' => ?_
        · repeat' (first | exact HSol.nil | exact HSol.zero | exact (valBlk_new _).sol | exact (shpBlk_new _).sol | exact dV_sol _ | refine hsolN ?_ | refine HSol.set ?_ ?_ | (simp; done))
        have g0 : H' 0 = some ⟨.c 29, 8, [(eState s).map .d]⟩ := by rw [low' _ (by omega)]; simp [Hp.set]
        have g1 : H' 1 = some ⟨.c 31, 2, [[.d (eI of.kind), .d (eI n)]]⟩ := by rw [low' _ (by omega)]; simp [Hp.set]
        have g4 : H' 4 = some ⟨.c 29, 8, [[.d .emp, .d .emp, .d .emp, .d .emp, .d .emp, .d .emp, .d (eI 0), .d (eI 0)]]⟩ := by rw [low' _ (by omega)]; simp [Hp.set]
        have gb : H' 8 = some (valBlk (s.cells[n].vals ++ [v])) := by rw [low' _ (by omega)]; simp [Hp.set, valBlk]
        skip
        clear low'
        simp only [dCells] at row'
        simp [g0, g1, g4, row', hnl, hn']
        refine and_ofP (HSol.set (HSol.set (HSol.set (HSol.set sol' (by simp)) (fun e he c hc => ?_)) (by simp)) (by simp)) fun _ => ⟨.tup [aD (eState (setCS s n ⟨s.cells[n].kind, q, s.cells[n].vals ++ [v], s.cells[n].frames⟩ L1)), dI (-1)], ⟨stateC_shw (t := setCS s n ⟨s.cells[n].kind, q, s.cells[n].vals ++ [v], s.cells[n].frames⟩ L1) (s := s) (cellsSet_shw ⟨s.cells[n].kind, q, s.cells[n].vals ++ [v], s.cells[n].frames⟩ (by rw [Hp.set_ne _ _ (by omega), Hp.set_ne _ _ (by omega), Hp.set_same]; simp [dCells]; rfl) ?_) ?_ ⟨rfl, rfl, rfl, rfl, rfl, rfl⟩, ⟨_, rfl, .d rfl⟩, trivial⟩, h⟩
        · rcases List.mem_or_eq_of_mem_set he with he | rfl
          · obtain ⟨x, -, rfl⟩ := List.mem_map.1 he
            simp at hc
            rcases hc with rfl | rfl | rfl | rfl <;> rfl
          · simp at hc
            rcases hc with rfl | rfl | rfl | rfl <;> rfl
        · rw [el]
          exact Shw.vals trivial (by rw [Hp.set_ne _ _ (by omega), Hp.set_ne _ _ (by omega), Hp.set_ne _ _ (by omega), Hp.set_ne _ _ (by omega)]; exact gb)
        · subst hold; exact .d rfl
    · rw [hw] at hb ⊢
      simp only at hb
      subst hb
      by_cases h100 : s.cells[n].vals.length = 100
      · rw [badS (.inr (by omega))] at h
        simp [h100]
        refine same _ _ ?_ h
        repeat' (first | exact HSol.nil | exact HSol.zero | exact (shpBlk_new _).sol | exact dV_sol _ | refine HSol.set ?_ ?_ | (simp; done))
      · rw [okS rfl (by omega)] at h
        have h100' : ¬ (s.cells[n].vals.length : Int) = 100 := by omega
        simp [h100, h100', hn, hnl, hn']
        refine fun _ => ⟨fun m b hm hb => ?_, .inl (by omega), ?_⟩
        · subst hm
          simp at hb
          subst hb
          exact ⟨rfl, rfl⟩
        have er : List.map ((fun e => List.map C.d e) ∘ eVal) s.cells[n].vals ++ [[C.d (eI v.kind), C.d (eI v.n)]] = (valBlk (s.cells[n].vals ++ [v])).es := by simp [valBlk, Function.comp_def]
        have el : s.cells[n].vals.length + 1 = (s.cells[n].vals ++ [v]).length := by simp
        rw [er, el]
        refine valsSet_ic s n hnl hcl 9 _ ?_ fun H' low' sol' row' => ?_
        · repeat' (first | exact HSol.nil | exact HSol.zero | exact (valBlk_new _).sol | exact (shpBlk_new _).sol | exact dV_sol _ | refine hsolN ?_ | refine HSol.set ?_ ?_ | (simp; done))
        have g0 : H' 0 = some ⟨.c 29, 8, [(eState s).map .d]⟩ := by rw [low' _ (by omega)]; simp [Hp.set]
        have g1 : H' 1 = some ⟨.c 31, 2, [[.d (eI of.kind), .d (eI n)]]⟩ := by rw [low' _ (by omega)]; simp [Hp.set]
        have g4 : H' 4 = some ⟨.c 29, 8, [[.d .emp, .d .emp, .d .emp, .d .emp, .d .emp, .d .emp, .d (eI 0), .d (eI 0)]]⟩ := by rw [low' _ (by omega)]; simp [Hp.set]
        have gb : H' 9 = some (valBlk (s.cells[n].vals ++ [v])) := by rw [low' _ (by omega)]; simp [Hp.set, valBlk]
        have gs : H' 7 = some (shpBlk L1) := by rw [low' _ (by omega)]; simp [Hp.set]
        clear low'
        simp only [dCells] at row'
        simp [g0, g1, g4, row', hnl, hn']
        refine and_ofP (HSol.set (HSol.set (HSol.set (HSol.set sol' (by simp)) (fun e he c hc => ?_)) (by simp)) (by simp)) fun _ => ⟨.tup [aD (eState (setCS s n ⟨s.cells[n].kind, q, s.cells[n].vals ++ [v], s.cells[n].frames⟩ L1)), dI (-1)], ⟨stateC_shw (t := setCS s n ⟨s.cells[n].kind, q, s.cells[n].vals ++ [v], s.cells[n].frames⟩ L1) (s := s) (cellsSet_shw ⟨s.cells[n].kind, q, s.cells[n].vals ++ [v], s.cells[n].frames⟩ (by rw [Hp.set_ne _ _ (by omega), Hp.set_ne _ _ (by omega), Hp.set_same]; simp [dCells]; rfl) ?_) ?_ ⟨rfl, rfl, rfl, rfl, rfl, rfl⟩, ⟨_, rfl, .d rfl⟩, trivial⟩, h⟩
        · rcases List.mem_or_eq_of_mem_set he with he | rfl
          · obtain ⟨x, -, rfl⟩ := List.mem_map.1 he
            simp at hc
            rcases hc with rfl | rfl | rfl | rfl <;> rfl
          · simp at hc
            rcases hc with rfl | rfl | rfl | rfl <;> rfl
        · rw [el]
          exact Shw.vals trivial (by rw [Hp.set_ne _ _ (by omega), Hp.set_ne _ _ (by omega), Hp.set_ne _ _ (by omega), Hp.set_ne _ _ (by omega)]; exact gb)
        · exact Shw.shps trivial (by rw [Hp.set_ne _ _ (by omega), Hp.set_ne _ _ (by omega), Hp.set_ne _ _ (by omega), Hp.set_ne _ _ (by omega)]; exact gs)
end Go.Proofs.YtomhiphiogbbiaaGreatDoor
