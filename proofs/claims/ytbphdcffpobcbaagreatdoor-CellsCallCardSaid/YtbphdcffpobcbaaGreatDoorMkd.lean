/- Several texts in one. -/
import Derived.Test.YtbphdcffpobcbaaGreatDoorMg
import Derived.Test.YtbphdcffpobcbaaGreatDoorMs
import Derived.Test.YtbphdcffpobcbaaGreatDoorMka
import Derived.Test.YtbphdcffpobcbaaGreatDoorMkc
set_option linter.unusedSimpArgs false
set_option linter.unusedVariables false
set_option maxRecDepth 100000
set_option maxHeartbeats 16000000
namespace Go.Proofs.YtbphdcffpobcbaaGreatDoor
open Go.RowKit Go
theorem and_ofP {p q : Prop} (h : p) (g : p → q) : p ∧ q := ⟨h, g h⟩
theorem hsolN {H : Hp} {n : Nat} (h : HSol H) : HSol (H.set n Option.none) := fun m x hx => by
  by_cases e : m = n
  · subst e; rw [Hp.set_same] at hx; cases hx
  · rw [Hp.set_ne _ _ e] at hx; exact h m x hx
theorem cloneTM_ok (S : Bool) (es : List (List Dt)) (hk : ∀ e ∈ es, e.length = 2) (hs : ∀ e ∈ es, ∀ x ∈ e, x.solidT = true) (hl : es.length ≤ 8796093022207) {K : D → List Blk → Prop} (h : K (.one (.own 0 2 es.length)) [⟨.c 147, 2, es.map fun e => e.map .d⟩]) :
    DPure Tryz.prog 131 [dL S es] K := by
  refine DPure.own 147 2 ?_
  refine fn_ok [0,2,4] [] Tryz.func131 rfl (by kernel_rfl) rfl rfl rfl rfl (by kernel_rfl) ?_
  have hk' : ∀ d ∈ es.map (fun e => e.map C.d), d.length = 2 := fun d hd => by
    obtain ⟨e, he, rfl⟩ := List.mem_map.1 hd
    simpa using hk e he
  have hl' : es.length ≤ 100000000000 ∨ (es.length ≤ 20000000000000 ∧ es.length * 16 ≤ 200000000000000) := .inr ⟨by omega, by omega⟩
  simp [Function.comp_def, hl']
  refine ⟨fun e => ?_, fun e he => hk e he, ?_⟩
  · subst e; exact .inr (by simpa using h)
  · rw [if_pos fun e he x hx => hs e he x hx]
    exact h
theorem cloneVM_ok (S : Bool) (es : List (List Dt)) (hk : ∀ e ∈ es, e.length = 2) (hs : ∀ e ∈ es, ∀ x ∈ e, x.solidT = true) (hl : es.length ≤ 8796093022207) {K : D → List Blk → Prop} (h : K (.one (.own 0 2 es.length)) [⟨.c 31, 2, es.map fun e => e.map .d⟩]) :
    DPure Tryz.prog 68 [dL S es] K := by
  refine DPure.own 31 2 ?_
  refine fn_ok [0,2,4] [] Tryz.func68 rfl (by kernel_rfl) rfl rfl rfl rfl (by kernel_rfl) ?_
  have hk' : ∀ d ∈ es.map (fun e => e.map C.d), d.length = 2 := fun d hd => by
    obtain ⟨e, he, rfl⟩ := List.mem_map.1 hd
    simpa using hk e he
  have hl' : es.length ≤ 100000000000 ∨ (es.length ≤ 20000000000000 ∧ es.length * 16 ≤ 200000000000000) := .inr ⟨by omega, by omega⟩
  simp [Function.comp_def, hl']
  refine ⟨fun e => ?_, fun e he => hk e he, ?_⟩
  · subst e; exact .inr (by simpa using h)
  · rw [if_pos fun e he x hx => hs e he x hx]
    exact h
theorem cloneThM_ok (S : Bool) (es : List (List Dt)) (hk : ∀ e ∈ es, e.length = 5) (hs : ∀ e ∈ es, ∀ x ∈ e, x.solidT = true) (hl : es.length ≤ 2513227452471) {K : D → List Blk → Prop} (h : K (.one (.own 0 5 es.length)) [⟨.c 90, 5, es.map fun e => e.map .d⟩]) :
    DPure Tryz.prog 66 [dL S es] K := by
  refine DPure.own 90 5 ?_
  refine fn_ok [0,2,4] [] Tryz.func66 rfl (by kernel_rfl) rfl rfl rfl rfl (by kernel_rfl) ?_
  have hk' : ∀ d ∈ es.map (fun e => e.map C.d), d.length = 5 := fun d hd => by
    obtain ⟨e, he, rfl⟩ := List.mem_map.1 hd
    simpa using hk e he
  have hl' : es.length ≤ 100000000000 ∨ (es.length ≤ 20000000000000 ∧ es.length * 56 ≤ 200000000000000) := .inr ⟨by omega, by omega⟩
  simp [Function.comp_def, hl']
  refine ⟨fun e => ?_, fun e he => hk e he, ?_⟩
  · subst e; exact .inr (by simpa using h)
  · rw [if_pos fun e he x hx => hs e he x hx]
    exact h
theorem cloneFrM_ok (S : Bool) (es : List (List Dt)) (hk : ∀ e ∈ es, e.length = 8) (hs : ∀ e ∈ es, ∀ x ∈ e, x.solidT = true) (hl : es.length ≤ 1466015503701) {K : D → List Blk → Prop} (h : K (.one (.own 0 8 es.length)) [⟨.c 100, 8, es.map fun e => e.map .d⟩]) :
    DPure Tryz.prog 130 [dL S es] K := by
  refine DPure.own 100 8 ?_
  refine fn_ok [0,2,4] [] Tryz.func130 rfl (by kernel_rfl) rfl rfl rfl rfl (by kernel_rfl) ?_
  have hk' : ∀ d ∈ es.map (fun e => e.map C.d), d.length = 8 := fun d hd => by
    obtain ⟨e, he, rfl⟩ := List.mem_map.1 hd
    simpa using hk e he
  have hl' : es.length ≤ 100000000000 ∨ (es.length ≤ 20000000000000 ∧ es.length * 96 ≤ 200000000000000) := .inr ⟨by omega, by omega⟩
  simp [Function.comp_def, hl']
  refine ⟨fun e => ?_, fun e he => hk e he, ?_⟩
  · subst e; exact .inr (by simpa using h)
  · rw [if_pos fun e he x hx => hs e he x hx]
    exact h
structure SizedM (s : GState) : Prop where
  cells : s.cells.length ≤ 300
  shapes : s.shapes.length ≤ 100
  texts : s.texts.length ≤ 300
  threads : s.threads.length ≤ 2513227452471
  ends : s.ends.length ≤ 100
  said : s.said.length ≤ 200
  cell : ∀ c ∈ s.cells, c.vals.length ≤ 8796093022207 ∧ c.frames.length ≤ 1466015503701 ∧ ∀ f ∈ c.frames, f.regs.length ≤ 8796093022207 ∧ f.tries.length ≤ 8796093022207
  thread : ∀ t ∈ s.threads, t.frames.length ≤ 1466015503701 ∧ ∀ f ∈ t.frames, f.regs.length ≤ 8796093022207 ∧ f.tries.length ≤ 8796093022207
theorem framesM_ic (S : Bool) (l : List GFrame) (hn : l.length ≤ 1466015503701) (hl : ∀ f ∈ l, f.regs.length ≤ 8796093022207 ∧ f.tries.length ≤ 8796093022207) {H : Hp} {nx : Nat} (hS : HSol H) {K : D → Hp → Nat → Prop}
    (h : ∀ H', (∀ i, i < nx → H' i = H i) → (∀ i, nx + 1 + 2 * l.length ≤ i → H' i = none) → HSol H' → FrAt H' nx l → K (.one (.own nx 8 l.length)) H' (nx + 1 + 2 * l.length)) : ICall Tryz.prog 69 [dL S (l.map eFrame)] H nx K := by
  refine ICall.fresh (by kernel_rfl) fun hfr => ?_
  refine fni_ok [0,2,3,7,8,9] [(5, [0,0,0,0,0,0,48,112,240,496,0,0,3072,7168,15360,32752,65523,131059,262131,524287,1048575,2097151], (.seg 0 (.seg 1 (.seg 2 (.seg 3 (.seg 4 (.seg 5 (.seg 6 (.seg 7 (.seg 8 (.seg 10 (.seg 11 (.seg 12 (.seg 13 (.seg 14 (.eff 9 [12, 13, 14] (.eff 15 [8, 14] (.seg 16 (.seg 17 (.eff 18 [] (.seg 19 (.seg 20 (.eff 21 [] .last)))))))))))))))))))))))] Tryz.func69 rfl (by kernel_rfl) rfl rfl rfl rfl (by kernel_rfl) ?_
  simp
  refine cloneFrM_ok S (l.map eFrame) (by simp) (by simp) (by simp; omega) ?_
  simp
  intro _
  refine loopH_ok (ks := [0,2,3,7,8,9]) (pl := [(5, [0,0,0,0,0,0,48,112,240,496,0,0,3072,7168,15360,32752,65523,131059,262131,524287,1048575,2097151], (.seg 0 (.seg 1 (.seg 2 (.seg 3 (.seg 4 (.seg 5 (.seg 6 (.seg 7 (.seg 8 (.seg 10 (.seg 11 (.seg 12 (.seg 13 (.seg 14 (.eff 9 [12, 13, 14] (.eff 15 [8, 14] (.seg 16 (.seg 17 (.eff 18 [] (.seg 19 (.seg 20 (.eff 21 [] .last)))))))))))))))))))))))]) (n0 := 33) (α := {x : HN // FrI H nx l x}) (fun x => [(8, dI x.1.k)]) (fun _ x => x.1.H) (fun x => x.1.nx) (fun x => l.length - x.1.k) ⟨⟨0, H.set nx (some (frMix nx 0 l)), nx + 1⟩, ?_⟩ rfl (by kernel_rfl) ?_ ?_
  · exact ⟨by simp, by simp, by simp, ⟨fun _ _ h => absurd h (Nat.not_lt_zero _), fun _ _ h => absurd h (Nat.not_lt_zero _)⟩, fun i hi => Hp.set_ne _ _ (by omega), fun i hi => by
      simp only at hi
      show H.set nx _ i = none
      rw [Hp.set_ne _ _ (by omega)]; exact hfr i (by omega), hS.set (frMix_sol _ _ _)⟩
  · refine Wk.subH (by simp) ?_
    simp only [frMix, mixR_zero]
    rfl
  rintro ⟨⟨k, H1, n1⟩, hk, hn1, hb, hsub, hlow, hhigh, hsol⟩
  simp only at hk hn1 hb hsub hlow hhigh hsol
  by_cases h1 : k < l.length
  · obtain ⟨g1, g2⟩ := hl _ (List.getElem_mem h1)
    have e0 : ¬ nx = n1 := by omega
    have e1 : ¬ nx = n1 + 1 := by omega
    have hr := mixR_at (own := fun i f => frRow (nx + 1 + 2 * i) (nx + 2 + 2 * i) f) (dat := frData) h1
    rw [frData] at hr
    rw [frMix] at hb
    simp [h1, hb, frData, e0, e1]
    refine cloneVM_ok true (l[k].regs.map eVal) (by simp) (by simp) (by simp; omega) ?_
    simp [h1, hb, frData, e0, e1]
    refine cloneTM_ok true (l[k].tries.map eTry) (by simp) (by simp) (by simp; omega) ?_
    simp [h1, hb, frData, e0, e1]
    have n2 : n1 + 1 = nx + 2 + 2 * k := by omega
    refine ⟨⟨k + 1, ((H1.set n1 (some (valBlk l[k].regs))).set (n1 + 1) (some (tryBlk l[k].tries))).set nx (some (frMix nx (k + 1) l)), n1 + 2⟩, by simp; omega, ⟨by simp; omega, by simp; omega, by simp, ⟨fun i hi hik => ?_, fun i hi hik => ?_⟩, fun i hi => ?_, fun i hi => ?_, ((hsol.set (valBlk_sol _)).set (tryBlk_sol _)).set (frMix_sol _ _ _)⟩, Wk.subH (by simp [wrap_add (show k < 9223372036854775807 by omega)]) ?_⟩
    · simp only at hik
      show Hp.set _ _ _ _ = _
      rw [Hp.set_ne _ _ (by omega), Hp.set_ne _ _ (by omega)]
      by_cases e : i = k
      · subst e; rw [hn1, Hp.set_same]
      · rw [Hp.set_ne _ _ (by omega)]; exact hsub.regs i hi (by omega)
    · simp only at hik
      show Hp.set _ _ _ _ = _
      rw [Hp.set_ne _ _ (by omega)]
      by_cases e : i = k
      · subst e; rw [n2, Hp.set_same]
      · rw [Hp.set_ne _ _ (by omega), Hp.set_ne _ _ (by omega)]; exact hsub.tries i hi (by omega)
    · show Hp.set _ _ _ _ = _
      rw [Hp.set_ne _ _ (by omega), Hp.set_ne _ _ (by omega), Hp.set_ne _ _ (by omega)]; exact hlow i hi
    · simp only at hi
      show Hp.set _ _ _ _ = _
      rw [Hp.set_ne _ _ (by omega), Hp.set_ne _ _ (by omega), Hp.set_ne _ _ (by omega)]; exact hhigh i (by omega)
    · rw [frMix, ← mixR_set h1, n2, hn1]
      rfl
  · obtain rfl : k = l.length := by omega
    simp [hsol]
    subst hn1
    exact h H1 hlow hhigh hsol ⟨hb, hsub⟩
theorem copyM_ic (s : GState) (hz : SizedM s) {H : Hp} {nx : Nat} (hS : HSol H) {K : D → Hp → Nat → Prop}
    (h : ∀ H', (∀ i, i < nx → H' i = H i) → (∀ i, enB (nx + 2) s ≤ i → H' i = none) → HSol H' → StAt H' (nx + 2) s → K (.agg (stRow (nx + 2) s)) H' (enB (nx + 2) s)) : ICall Tryz.prog 24 [aD (eState s)] H nx K := by
  obtain ⟨z1, z2, z3, z4, z5, z6, z7, z8⟩ := hz
  refine ICall.fresh (by kernel_rfl) fun hfr => ?_
  refine fni_ok [0,1,2,3,4,31,32,33,62,63,64] [(1, [0,1,3,0,8,31,0,64,255,0,512,2047,0,4096,16383,0,32768,131071,112351,524287,1048575,2097151,4194303,8388607,16777215,33554431,67108863,134217727,268435455,536870911], (.seg 0 (.seg 1 (.seg 3 (.seg 4 (.seg 6 (.seg 7 (.seg 9 (.seg 10 (.seg 12 (.seg 13 (.seg 15 (.seg 16 (.eff 2 [3, 4, 6, 7, 9, 10, 12, 13, 15, 16] (.seg 18 (.eff 5 [6, 7, 9, 10, 12, 13, 15, 16, 18] (.eff 8 [9, 10, 12, 13, 15, 16, 18] (.eff 11 [12, 13, 15, 16, 18] (.eff 14 [15, 16, 18] (.eff 17 [18] (.eff 19 [] (.seg 20 (.eff 21 [] (.seg 22 (.eff 23 [] (.seg 24 (.eff 25 [] (.seg 26 (.eff 27 [] (.seg 28 (.eff 29 [] .last))))))))))))))))))))))))))))))), (5, [0,1,0,0,8,0,0,64,0,448,960,1984,4032,0,8192,0,57344,122880,253952,524224,1048519,2097095,4194247,8388607,16777215,33554431], (.seg 0 (.seg 1 (.seg 2 (.seg 3 (.seg 4 (.seg 5 (.seg 6 (.seg 7 (.seg 8 (.seg 9 (.seg 10 (.seg 11 (.seg 13 (.seg 14 (.seg 15 (.seg 16 (.seg 17 (.seg 18 (.eff 12 [0, 1, 3, 4, 13, 14, 16, 17, 18] (.eff 19 [0, 1, 3, 4] (.seg 20 (.seg 21 (.eff 22 [3, 4] (.seg 23 (.seg 24 (.eff 25 [] .last))))))))))))))))))))))))))), (10, [0,1,0,0,8,0,56,120,248,504,1023,2047,4095], (.seg 0 (.seg 1 (.seg 2 (.seg 3 (.seg 4 (.seg 5 (.seg 6 (.seg 7 (.seg 8 (.eff 9 [0, 1] (.seg 10 (.seg 11 (.eff 12 [] .last))))))))))))))] Tryz.func24 rfl (by kernel_rfl) rfl rfl rfl rfl (by kernel_rfl) ?_
  simp
  refine cloneCe_ok true (s.cells.map eCell) (by simp) (by simp) (by simp; omega) ?_
  simp
  refine cloneSh_ok true (s.shapes.map eShape) (fun e he => by obtain ⟨v, -, rfl⟩ := List.mem_map.1 he; rfl) (fun e he d hd => by obtain ⟨v, -, rfl⟩ := List.mem_map.1 he; simp at hd; rcases hd with rfl | rfl <;> rfl) (by simp; omega) ?_
  simp
  refine cloneS_ok true (s.texts.map eStr) (by simp) (by simp) (by simp; omega) ?_
  simp
  refine cloneThM_ok true (s.threads.map eThread) (by simp) (by simp) (by simp; omega) ?_
  simp
  refine cloneEn_ok true (s.ends.map eEnd) (by simp) (by simp) (by simp; omega) ?_
  simp
  refine cloneVM_ok true (s.said.map eVal) (by simp) (by simp) (by simp; omega) ?_
  simp [Nat.add_assoc]
  intro _
  refine loopH_ok (ks := [0,1,2,3,4,31,32,33,62,63,64]) (pl := [(1, [0,1,3,0,8,31,0,64,255,0,512,2047,0,4096,16383,0,32768,131071,112351,524287,1048575,2097151,4194303,8388607,16777215,33554431,67108863,134217727,268435455,536870911], (.seg 0 (.seg 1 (.seg 3 (.seg 4 (.seg 6 (.seg 7 (.seg 9 (.seg 10 (.seg 12 (.seg 13 (.seg 15 (.seg 16 (.eff 2 [3, 4, 6, 7, 9, 10, 12, 13, 15, 16] (.seg 18 (.eff 5 [6, 7, 9, 10, 12, 13, 15, 16, 18] (.eff 8 [9, 10, 12, 13, 15, 16, 18] (.eff 11 [12, 13, 15, 16, 18] (.eff 14 [15, 16, 18] (.eff 17 [18] (.eff 19 [] (.seg 20 (.eff 21 [] (.seg 22 (.eff 23 [] (.seg 24 (.eff 25 [] (.seg 26 (.eff 27 [] (.seg 28 (.eff 29 [] .last))))))))))))))))))))))))))))))), (5, [0,1,0,0,8,0,0,64,0,448,960,1984,4032,0,8192,0,57344,122880,253952,524224,1048519,2097095,4194247,8388607,16777215,33554431], (.seg 0 (.seg 1 (.seg 2 (.seg 3 (.seg 4 (.seg 5 (.seg 6 (.seg 7 (.seg 8 (.seg 9 (.seg 10 (.seg 11 (.seg 13 (.seg 14 (.seg 15 (.seg 16 (.seg 17 (.seg 18 (.eff 12 [0, 1, 3, 4, 13, 14, 16, 17, 18] (.eff 19 [0, 1, 3, 4] (.seg 20 (.seg 21 (.eff 22 [3, 4] (.seg 23 (.seg 24 (.eff 25 [] .last))))))))))))))))))))))))))), (10, [0,1,0,0,8,0,56,120,248,504,1023,2047,4095], (.seg 0 (.seg 1 (.seg 2 (.seg 3 (.seg 4 (.seg 5 (.seg 6 (.seg 7 (.seg 8 (.eff 9 [0, 1] (.seg 10 (.seg 11 (.eff 12 [] .last))))))))))))))]) (n0 := 80) (α := {x : HN // CeI H nx (nx + 2) s x}) (fun x => [(32, dI x.1.k)]) (fun _ x => x.1.H) (fun x => x.1.nx) (fun x => s.cells.length - x.1.k) ⟨⟨0, cp0 H nx s, nx + 8⟩, cp0_ok hS hfr⟩ rfl (by kernel_rfl) (Wk.subH (by simp) (by simp only [cp0, ceMix, thMix, mixR_zero]; rfl)) ?_
  rintro ⟨⟨k, H1, n1⟩, hI⟩
  have hI2 := hI
  obtain ⟨hm, hk, hn1, hbox, hres, hoth, hce, hthr, hin, hlow, hhigh, hsol⟩ := hI2
  simp only at hk hn1 hbox hres hoth hce hthr hin hlow hhigh hsol
  have hn2 : nx + 8 ≤ n1 := by rw [hn1]; simp only [ceB]; omega
  have e0 : ¬ nx = n1 := by omega
  have e1 : ¬ nx + 2 = n1 := by omega
  by_cases h1 : k < s.cells.length
  · obtain ⟨g1, g2, g3⟩ := z7 _ (List.getElem_mem h1)
    have hce2 := hce
    rw [ceMix] at hce
    rw [stRow] at hbox
    simp [h1, hbox, hce, ceData, e0, e1]
    refine cloneVM_ok true (s.cells[k].vals.map eVal) (by simp) (by simp) (by simp; omega) ?_
    simp [h1, hbox, hce, ceData, e0, e1]
    refine framesM_ic true s.cells[k].frames g2 g3 (fun _ _ h => by cases h) (fun H' low' high' sol' at' => ?_)
    simp
    refine ⟨at'.newAll low' high', ?_⟩
    have d1 : Hp.mer (H1.set n1 (some (valBlk s.cells[k].vals))) (n1 + 1) H' nx = some ⟨.c 29, 8, [stRow (nx + 2) s]⟩ := by
      rw [Hp.mer_lt (by omega), Hp.set_ne _ _ (by omega)]; exact hbox
    have d2 : Hp.mer (H1.set n1 (some (valBlk s.cells[k].vals))) (n1 + 1) H' (nx + 2) = some (ceMix (ceB (nx + 2)) k s.cells) := by
      rw [Hp.mer_lt (by omega), Hp.set_ne _ _ (by omega)]; exact hce2
    have d3 : ∀ i, i < n1 → Hp.mer (H1.set n1 (some (valBlk s.cells[k].vals))) (n1 + 1) H' i = H1 i := fun i hi => by rw [Hp.mer_lt (by omega), Hp.set_ne _ _ (by omega)]
    have d4 : Hp.mer (H1.set n1 (some (valBlk s.cells[k].vals))) (n1 + 1) H' n1 = some (valBlk s.cells[k].vals) := by rw [Hp.mer_lt (by omega), Hp.set_same]
    have d5 : ∀ i, n1 + 1 ≤ i → Hp.mer (H1.set n1 (some (valBlk s.cells[k].vals))) (n1 + 1) H' i = H' i := fun i hi => Hp.mer_ge hi
    have d6 : HSol (Hp.mer (H1.set n1 (some (valBlk s.cells[k].vals))) (n1 + 1) H') := (hsol.set (valBlk_sol _)).mer sol'
    have at' : FrAt (Hp.mer (H1.set n1 (some (valBlk s.cells[k].vals))) (n1 + 1) H') (n1 + 1) s.cells[k].frames := at'.low fun i h1 _ => d5 i h1
    rw [stRow] at d1
    rw [ceMix] at d2
    rw [show (⟨.c 31, 2, s.cells[k].vals.map ((fun e => e.map C.d) ∘ eVal)⟩ : Blk) = valBlk s.cells[k].vals from rfl]
    generalize Hp.mer (H1.set n1 (some (valBlk s.cells[k].vals))) (n1 + 1) H' = M at *
    simp [h1, d1, d2, ceData, stRow]
    refine ⟨⟨k + 1, _, _⟩, ?_, CeI.next hI h1 at' d3 d4 (fun i hi => ?_) ?_ rfl, Wk.sub (by simp [wrap_add (show k < 9223372036854775807 by omega)])⟩
    · simp; omega
    · rw [d5 i (by omega)]; exact high' i (by omega)
    · exact d6
  · obtain rfl : k = s.cells.length := by omega
    rw [stRow] at hbox
    simp [hbox]
    intro _
    refine loopH_ok (ks := [0,1,2,3,4,31,32,33,62,63,64]) (pl := [(1, [0,1,3,0,8,31,0,64,255,0,512,2047,0,4096,16383,0,32768,131071,112351,524287,1048575,2097151,4194303,8388607,16777215,33554431,67108863,134217727,268435455,536870911], (.seg 0 (.seg 1 (.seg 3 (.seg 4 (.seg 6 (.seg 7 (.seg 9 (.seg 10 (.seg 12 (.seg 13 (.seg 15 (.seg 16 (.eff 2 [3, 4, 6, 7, 9, 10, 12, 13, 15, 16] (.seg 18 (.eff 5 [6, 7, 9, 10, 12, 13, 15, 16, 18] (.eff 8 [9, 10, 12, 13, 15, 16, 18] (.eff 11 [12, 13, 15, 16, 18] (.eff 14 [15, 16, 18] (.eff 17 [18] (.eff 19 [] (.seg 20 (.eff 21 [] (.seg 22 (.eff 23 [] (.seg 24 (.eff 25 [] (.seg 26 (.eff 27 [] (.seg 28 (.eff 29 [] .last))))))))))))))))))))))))))))))), (5, [0,1,0,0,8,0,0,64,0,448,960,1984,4032,0,8192,0,57344,122880,253952,524224,1048519,2097095,4194247,8388607,16777215,33554431], (.seg 0 (.seg 1 (.seg 2 (.seg 3 (.seg 4 (.seg 5 (.seg 6 (.seg 7 (.seg 8 (.seg 9 (.seg 10 (.seg 11 (.seg 13 (.seg 14 (.seg 15 (.seg 16 (.seg 17 (.seg 18 (.eff 12 [0, 1, 3, 4, 13, 14, 16, 17, 18] (.eff 19 [0, 1, 3, 4] (.seg 20 (.seg 21 (.eff 22 [3, 4] (.seg 23 (.seg 24 (.eff 25 [] .last))))))))))))))))))))))))))), (10, [0,1,0,0,8,0,56,120,248,504,1023,2047,4095], (.seg 0 (.seg 1 (.seg 2 (.seg 3 (.seg 4 (.seg 5 (.seg 6 (.seg 7 (.seg 8 (.eff 9 [0, 1] (.seg 10 (.seg 11 (.eff 12 [] .last))))))))))))))]) (n0 := 80) (α := {x : HN // ThI H nx (nx + 2) s x}) (fun x => [(63, dI x.1.k)]) (fun _ x => x.1.H) (fun x => x.1.nx) (fun x => s.threads.length - x.1.k) ⟨⟨0, H1, n1⟩, ?_⟩ rfl (by kernel_rfl) (Wk.sub (by simp)) ?_
    · exact ⟨rfl, Nat.zero_le _, by rw [hn1]; simp [ceB, thB], hI.box, hres, hoth, hce, hthr, hin, fun _ _ h => absurd h (Nat.not_lt_zero _), hlow, hhigh, hsol⟩
    clear hI hn1 hbox hres hoth hce hthr hin hlow hhigh hsol hn2 e0 e1
    rintro ⟨⟨k, H2, n2⟩, hJ⟩
    have hJ2 := hJ
    obtain ⟨-, hk2, hn1, hbox, hres, hoth, hce, hthr, hin, hth, hlow, hhigh, hsol⟩ := hJ2
    simp only at hk2 hn1 hbox hres hoth hce hthr hin hth hlow hhigh hsol
    have hn2 : nx + 8 ≤ n2 := by rw [hn1]; simp only [thB]; omega
    by_cases h2 : k < s.threads.length
    · obtain ⟨g1, g2⟩ := z8 _ (List.getElem_mem h2)
      have hbox2 := hbox
      have hthr2 := hthr
      rw [thMix] at hthr
      rw [stRow] at hbox
      simp [h2, hbox, hthr, thData]
      refine framesM_ic true s.threads[k].frames g1 g2 (fun _ _ h => by cases h) (fun H' low' high' sol' at' => ?_)
      simp
      refine ⟨at'.newAll low' high', ?_⟩
      have d3 : ∀ i, i < n2 → Hp.mer H2 n2 H' i = H2 i := fun i hi => Hp.mer_lt hi
      have d5 : ∀ i, n2 ≤ i → Hp.mer H2 n2 H' i = H' i := fun i hi => Hp.mer_ge hi
      have d1 : Hp.mer H2 n2 H' nx = some ⟨.c 29, 8, [stRow (nx + 2) s]⟩ := by rw [d3 _ (by omega)]; exact hbox2
      have d2 : Hp.mer H2 n2 H' (nx + 5) = some (thMix (thB (nx + 2) s) k s.threads) := by rw [d3 _ (by omega)]; exact hthr2
      have d6 : HSol (Hp.mer H2 n2 H') := hsol.mer sol'
      have at2 : FrAt (Hp.mer H2 n2 H') n2 s.threads[k].frames := at'.low fun i h1 _ => d5 i h1
      rw [stRow] at d1
      rw [thMix] at d2
      generalize Hp.mer H2 n2 H' = M at *
      simp [h2, d1, d2, thData, stRow]
      refine ⟨⟨k + 1, _, _⟩, ?_, ThI.next hJ h2 at2 d3 (fun i hi => ?_) d6 rfl, Wk.sub (by simp [wrap_add (show k < 9223372036854775807 by omega)])⟩
      · simp; omega
      · rw [d5 i (by omega)]; exact high' i hi
    · obtain rfl : k = s.threads.length := by omega
      rw [stRow] at hbox
      rw [nilS] at hres
      simp [hbox, hres]
      have sol2 : HSol (H2.set (nx + 1) (some ⟨.c 29, 8, [stRow (nx + 2) s]⟩)) := hsol.set (by simp [stRow])
      have ne : ∀ i, i ≠ nx + 1 → H2.set (nx + 1) (some ⟨.c 29, 8, [stRow (nx + 2) s]⟩) i = H2 i := fun i hi => Hp.set_ne _ _ hi
      refine ⟨sol2, ?_⟩
      have hn3 : n2 = enB (nx + 2) s := hn1
      subst hn3
      rw [stRow] at ne sol2
      refine h _ (fun i hi => ?_) (fun i hi => ?_) sol2 ⟨?_, ?_, ?_, ?_, ?_⟩
      · rw [ne _ (by omega)]; exact hlow i hi
      · rw [ne _ (by omega)]; exact hhigh i hi
      · exact hoth.low fun i h1 h2 h3 h4 => ne _ (by omega)
      · rw [ne _ (by omega)]; exact hce
      · rw [ne _ (by omega)]; exact hthr
      · exact hin.low (Nat.le_refl _) fun i h1 h2 => ne _ (by simp only [ceB] at h1; omega)
      · exact hth.low (Nat.le_refl _) fun i h1 h2 => ne _ (by simp only [thB] at h1; omega)
theorem copyOM_ic (s : GState) (hz : SizedM s) {H : Hp} {nx : Nat} (hS : HSol H) {K : D → Hp → Nat → Prop}
    (h : ∀ H' A nx', nx ≤ nx' → (∀ i, i < nx → H' i = H i) → (∀ i, nx' ≤ i → H' i = none) → HSol H' → OwnS H' nx A s → K (.agg (oRow A s)) H' nx') : ICall Tryz.prog 24 [aD (eState s)] H nx K :=
  copyM_ic s hz hS fun H' low high sol at1 => by
    have h1 := at1.own
    exact h H' (layS (nx + 2) s) _ (by simp only [enB, thB]; omega) low high sol ⟨h1.ce, h1.th, h1.sh, h1.tx, h1.en, h1.sa, h1.cv, h1.cf, h1.tf, h1.inj, fun x hx => by have := h1.lo x hx; omega⟩
theorem opn_triesW : Opn Tryz.prog 98 (List GTry) (fun l => [.sl true (l.map eTry)]) (fun l => l.length ≤ 8796093022207) := Opn.map (opn_sliceW (e := 147) (k := 2) (f := eTry) (by kernel_rfl) (by kernel_rfl) (by decide) (fun _ => rfl) opn_try) id (fun _ => rfl) (fun l h => by
  have h1 := h.2
  rw [show Tryz.prog.bytesOf 147 = 16 by kernel_rfl] at h1
  unfold reachBytes at h1
  show l.length ≤ _
  omega)
def okFrameW (f : GFrame) : Prop := f.regs.length ≤ 8796093022207 ∧ f.tries.length ≤ 8796093022207
theorem opn_frameW : Opn Tryz.prog 100 GFrame eFrame okFrameW :=
  Opn.map (opn_struct Tryz.underlying100 (opnF_cons (k := 1) rfl (by kernel_rfl) (fun _ => rfl) (opn_op (by kernel_rfl)) (opnF_cons (k := 1) rfl (by kernel_rfl) (fun _ => rfl) (opn_op (by kernel_rfl)) (opnF_cons (k := 1) rfl (by kernel_rfl) (fun _ => rfl) (opn_op (by kernel_rfl)) (opnF_cons (k := 1) rfl (by kernel_rfl) (fun _ => rfl) (opn_op (by kernel_rfl))
    (opnF_cons (k := 2) rfl (by kernel_rfl) (fun _ => rfl) opn_val (opnF_cons (k := 1) rfl (by kernel_rfl) (fun _ => rfl) opn_regs (opnF_cons (k := 1) rfl (by kernel_rfl) (fun _ => rfl) opn_triesW opnF_nil))))))))
    (fun x => ⟨x.1, x.2.1, x.2.2.1, x.2.2.2.1, x.2.2.2.2.1, x.2.2.2.2.2.1, x.2.2.2.2.2.2.1⟩) (fun _ => rfl) (fun _ h => ⟨h.2.2.2.2.2.1, h.2.2.2.2.2.2.1⟩)
def okFramesW (l : List GFrame) : Prop := l.length ≤ 1466015503701 ∧ ∀ f ∈ l, okFrameW f
theorem opn_framesW : Opn Tryz.prog 73 (List GFrame) (fun l => [.sl true (l.map eFrame)]) okFramesW := Opn.map (opn_sliceW (e := 100) (k := 8) (f := eFrame) (by kernel_rfl) (by kernel_rfl) (by decide) (fun _ => rfl) opn_frameW) id (fun _ => rfl) (fun l h => ⟨by
  have h1 := h.2
  rw [show Tryz.prog.bytesOf 100 = 96 by kernel_rfl] at h1
  unfold reachBytes at h1
  show l.length ≤ _
  omega, h.1⟩)
def okCellW (c : GCell) : Prop := (∀ v ∈ c.vals, InI v.n) ∧ okFramesW c.frames
theorem opn_cellW : Opn Tryz.prog 75 GCell eCell okCellW :=
  Opn.map (opn_struct Tryz.underlying75 (opnF_cons (k := 1) rfl (by kernel_rfl) (fun _ => rfl) (opn_op (by kernel_rfl)) (opnF_cons (k := 1) rfl (by kernel_rfl) (fun _ => rfl) (opn_op (by kernel_rfl)) (opnF_cons (k := 1) rfl (by kernel_rfl) (fun _ => rfl) opn_valsW (opnF_cons (k := 1) rfl (by kernel_rfl) (fun _ => rfl) opn_framesW opnF_nil)))))
    (fun x => ⟨x.1, x.2.1, x.2.2.1, x.2.2.2.1⟩) (fun _ => rfl) (fun _ h => ⟨h.2.2.1, h.2.2.2.1⟩)
theorem opn_threadW : Opn Tryz.prog 90 GThread eThread (fun t => okFramesW t.frames) :=
  Opn.map (opn_struct Tryz.underlying90 (opnF_cons (k := 1) rfl (by kernel_rfl) (fun _ => rfl) opn_framesW (opnF_cons (k := 1) rfl (by kernel_rfl) (fun _ => rfl) (opn_op (by kernel_rfl)) (opnF_cons (k := 1) rfl (by kernel_rfl) (fun _ => rfl) (opn_op (by kernel_rfl)) (opnF_cons (k := 2) rfl (by kernel_rfl) (fun _ => rfl) opn_val opnF_nil)))))
    (fun x => ⟨x.1, x.2.1, x.2.2.1, x.2.2.2.1⟩) (fun _ => rfl) (fun _ h => h.1)
theorem opn_cellsW : Opn Tryz.prog 22 (List GCell) (fun l => [.sl true (l.map eCell)]) (fun l => ∀ c ∈ l, okCellW c) := Opn.map (opn_slice (e := 75) (k := 4) (f := eCell) (by kernel_rfl) (by kernel_rfl) (by decide) (fun _ => rfl) opn_cellW) id (fun _ => rfl) (fun _ h => h)
def okThreads (l : List GThread) : Prop := l.length ≤ 2513227452471 ∧ ∀ t ∈ l, okFramesW t.frames
theorem opn_threadsW : Opn Tryz.prog 25 (List GThread) (fun l => [.sl true (l.map eThread)]) okThreads := Opn.map (opn_sliceW (e := 90) (k := 5) (f := eThread) (by kernel_rfl) (by kernel_rfl) (by decide) (fun _ => rfl) opn_threadW) id (fun _ => rfl) (fun l h => ⟨by
  have h1 := h.2
  rw [show Tryz.prog.bytesOf 90 = 56 by kernel_rfl] at h1
  unfold reachBytes at h1
  show l.length ≤ _
  omega, h.1⟩)
structure OkW (s : GState) : Prop where
  ok : okSt s
  cells : ∀ c ∈ s.cells, okFramesW c.frames
  threads : okThreads s.threads
theorem opn_stateW : Opn Tryz.prog 29 GState eState OkW :=
  Opn.map (opn_struct Tryz.underlying29 (opnF_cons (k := 1) rfl (by kernel_rfl) (fun _ => rfl) opn_cellsW (opnF_cons (k := 1) rfl (by kernel_rfl) (fun _ => rfl) opn_shapes (opnF_cons (k := 1) rfl (by kernel_rfl) (fun _ => rfl) opn_texts (opnF_cons (k := 1) rfl (by kernel_rfl) (fun _ => rfl) opn_threadsW
    (opnF_cons (k := 1) rfl (by kernel_rfl) (fun _ => rfl) opn_ends (opnF_cons (k := 1) rfl (by kernel_rfl) (fun _ => rfl) opn_vals (opnF_cons (k := 1) rfl (by kernel_rfl) (fun _ => rfl) (opn_op (by kernel_rfl)) (opnF_cons (k := 1) rfl (by kernel_rfl) (fun _ => rfl) (opn_op (by kernel_rfl)) opnF_nil)))))))))
    (fun x => ⟨x.1, x.2.1, x.2.2.1, x.2.2.2.1, x.2.2.2.2.1, x.2.2.2.2.2.1, x.2.2.2.2.2.2.1, x.2.2.2.2.2.2.2.1⟩) (fun _ => rfl) (fun x h => ⟨⟨h.2.2.1, h.2.1, fun c hc => ⟨(h.1 c hc).1, fun f hf => ((h.1 c hc).2.2 f hf).1⟩⟩, fun c hc => (h.1 c hc).2, h.2.2.2.1⟩)
theorem stateW_arg {H : Type} {enc : TypeId × Value → H} {W : World} {held : Bool} {r : Reach} {b0 : Nat} {v : Value} {d : DataW H} {ps : List MemPlace} (hval : Value.okWide Tryz.prog W r b0 29 v) (h : DataW.Trod enc Tryz.prog W 0 (fun _ => true) held 29 v d ps) (hz : ∀ y ∈ d.weights Tryz.prog 29, y ≤ reachBytes) :
    ∃ s : GState, OkW s ∧ ∀ (B : Nat → Prop) (ι : Nms), RV (Env.mk (fun b => b < W.heap.size) B) W ι (aD (eState s)) v := by
  obtain ⟨cs, rfl, hsz⟩ := WideShapes.okWide_struct Tryz.underlying29 hval
  rw [show Tryz.prog.cellsOf 29 = 8 by kernel_rfl] at hsz
  obtain ⟨m, hm⟩ := h
  rw [show (Value.agg cs).cells = cs from rfl] at hm
  obtain ⟨s, s1, s2⟩ := opn_stateW enc W held cs.toList ⟨m, _, hm, hz⟩
  refine ⟨s, s1, fun B ι => ?_⟩
  rw [RV]
  exact ⟨cs, rfl, rcs_of _ (by simp [hsz]) (s2 _ fun b hb => hb)⟩
theorem sizedM_of {s : GState} (h : cellsQ wordsT s = 0) (hw : OkW s) : SizedM s := by
  obtain ⟨g1, g2, -⟩ := cellsQ_iff.1 h
  simp only [heapLarge, Bool.or_eq_false_iff, decide_eq_false_iff_not] at g1
  have h6 : s.shapes.length ≤ 100 := (faultP_ok g2).1
  refine ⟨by omega, h6, by omega, hw.threads.1, by omega, by omega, fun c hc => ?_, fun t ht => ?_⟩
  · obtain ⟨n, hn, rfl⟩ := List.getElem_of_mem hc
    have := (cell_vals h hn).2.2
    exact ⟨by omega, (hw.cells _ hc).1, fun f hf => (hw.cells _ hc).2 f hf⟩
  · exact ⟨(hw.threads.2 t ht).1, fun f hf => (hw.threads.2 t ht).2 f hf⟩
noncomputable def askC (s : GState) (l : List GVal) : Bool := decide (cellsQ wordsT s = 0) && l.all (fitsB s)
theorem askC_iff {s : GState} {l : List GVal} : askC s l = true ↔ cellsQ wordsT s = 0 ∧ ∀ v ∈ l, fitsB s v = true := by
  unfold askC; simp
theorem asked_ok (S T : Bool) (s : GState) (hs : okSt s) (l : List GVal) {K : D → List Blk → Prop} (h : K (dB (askC s l)) []) : DPure Tryz.prog 23 [pS true s, dL S (l.map eVal)] K := by
  refine fn_ok [0,1,4] [] Tryz.func23 rfl (by kernel_rfl) rfl rfl rfl rfl (by kernel_rfl) ?_
  simp
  refine celCheck_ok s hs ?_
  by_cases c1 : cellsQ wordsT s = 0
  · simp [c1]
    refine celAll_ok S s l ?_
    simp
    exact kB h (by unfold askC; simp [c1])
  · simp [c1]
    exact kB h (by unfold askC; simp [c1])
def emptyS : GState := ⟨[], [], [], [], [], [], 0, 0⟩
theorem empty_shw {H : Hp} {N : Nat → Prop} : CsShw H N [.d .emp, .d .emp, .d .emp, .d .emp, .d .emp, .d .emp, .d (eI 0), .d (eI 0)] ((eState emptyS).map .d) := CsS.csShw (ds := eState emptyS) ⟨.emp, .emp, .emp, .emp, .emp, .emp, .d rfl, .d rfl, trivial⟩
end Go.Proofs.YtbphdcffpobcbaaGreatDoor
