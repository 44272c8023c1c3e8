/- Several texts in one. -/
import Derived.Test.YtomhiphiogbbiaaGreatDoorMg
import Derived.Test.YtomhiphiogbbiaaGreatDoorMs
import Derived.Test.YtomhiphiogbbiaaGreatDoorMka
import Derived.Test.YtomhiphiogbbiaaGreatDoorMkc
set_option linter.unusedSimpArgs false
set_option linter.unusedVariables false
set_option maxRecDepth 100000
set_option maxHeartbeats 16000000
namespace Go.Proofs.YtomhiphiogbbiaaGreatDoor
open Go.RowKit Go
theorem and_ofP {p q : Prop} (h : p) (g : p → q) : p ∧ q := ⟨h, g h⟩
theorem hsolN {H : Hp} {n : Nat} (h : HSol H) : HSol (H.set n Option.none) := fun m x hx => by
  by_cases e : m = n
  · subst e; rw [Hp.set_same] at hx; cases hx
  · rw [Hp.set_ne _ _ e] at hx; exact h m x hx
theorem heapPutO_ic {H : Hp} {lo nx nS : Nat} {A : Ad → Nat} {s : GState} (hq : cellsQ wordsT s = 0) (hin : ∀ x ∈ s.shapes, InS x) (of which v : GVal) (ho : fitsB s of = true) (hSol : HSol H) (hO : OwnS H lo A s) (hS : H nS = some (stB A s)) (hSn : ∀ x, Live s x → A x ≠ nS) (hlo : lo ≤ nx) {K : D → Hp → Nat → Prop}
    (hbad : 0 ≤ (putW s of which v).2 → ∀ nx', nx ≤ nx' → K (dI (putW s of which v).2) H nx')
    (hok : (putW s of which v).2 = -1 → ∀ H' nx' A', nx ≤ nx' → (∀ q, q < nx → (∀ x, Live s x → q ≠ A x) → q ≠ nS → H' q = H q) → (∀ q, nx' ≤ q → H' q = none) → HSol H' → OwnS H' lo A' (putW s of which v).1 → H' nS = some (stB A' (putW s of which v).1) → (∀ x, Live (putW s of which v).1 x → (∃ y, Live s y ∧ A' x = A y) ∨ nx ≤ A' x) → K (dI (-1)) H' nx') :
    ICall Tryz.prog 70 [hpO nS, aD (eVal of), aD (eVal which), aD (eVal v)] H nx K := by
  refine ICall.fresh (by kernel_rfl) fun hfr => ICall.cut ?_
  have n1 : ∀ x, Live s x → A x < nx := fun x hx => hO.lt hfr hx
  have pS := fresh_lt hfr hS
  have hr := fits_ref ho
  refine fni_ok [0,1,2,3,4,5,6,7,8,9,10,11,12,13,14,23,29,62] [(6, [0,1,3,7,0,0,63,127], (.seg 0 (.seg 1 (.seg 2 (.seg 3 (.seg 4 (.seg 5 (.seg 6 (.eff 7 [] .last))))))))), (8, [0,1,3,7,15,0,32,96,224,0,512,2047,4095,8191,8191,8191,16383,98303,262143], (.seg 0 (.seg 1 (.seg 2 (.seg 3 (.seg 4 (.seg 5 (.seg 6 (.seg 7 (.seg 8 (.seg 9 (.seg 10 (.eff 11 [] (.seg 12 (.seg 13 (.seg 14 (.seg 15 (.seg 16 (.seg 17 (.seg 18 .last)))))))))))))))))))), (11, [0,1,0,0,0,0,0,64,192,448,0,1024,4032,8147,16339,32723,65527,131063,262135,524287,1048575,2097151], (.seg 0 (.seg 2 (.seg 3 (.seg 4 (.seg 5 (.seg 6 (.seg 7 (.seg 8 (.seg 9 (.seg 10 (.fork 1 [7, 8, 9, 10] (.eff 11 [0, 7, 8, 9] (.eff 12 [0] (.seg 13 (.seg 14 (.eff 15 [] (.seg 16 (.seg 17 (.eff 18 [] (.seg 19 (.seg 20 (.eff 21 [] .last))))))))))) (.eff 11 [0, 7, 8, 9] (.fork 1 [7, 8, 9] (.eff 12 [0] (.seg 13 (.seg 14 (.eff 15 [] (.seg 16 (.seg 17 (.eff 18 [] (.seg 19 (.seg 20 (.eff 21 [] .last)))))))))) (.eff 12 [0] (.eff 1 [] (.seg 13 (.seg 14 (.eff 15 [] (.seg 16 (.seg 17 (.eff 18 [] (.seg 19 (.seg 20 (.eff 21 [] .last)))))))))))))))))))))))))] Tryz.func70 rfl (by kernel_rfl) rfl rfl rfl rfl (by kernel_rfl) ?_
  simp [Nat.add_assoc]
  have hM1 : OwnS ((((H.set nx (some ⟨.c 109, 1, [[.ptr nS 8 0 0]]⟩)).set (nx + 1) (some ⟨.c 31, 2, [[.d (eI of.kind), .d (eI of.n)]]⟩)).set (nx + 2) (some ⟨.c 31, 2, [[.d (eI which.kind), .d (eI which.n)]]⟩)).set (nx + 3) (some ⟨.c 31, 2, [[.d (eI v.kind), .d (eI v.n)]]⟩)) lo A s :=
    (((hO.set_low _ fun x hx => by have := n1 x hx; omega).set_low _ fun x hx => by have := n1 x hx; omega).set_low _ fun x hx => by have := n1 x hx; omega).set_low _ fun x hx => by have := n1 x hx; omega
  have hM2 : ∀ i, i < nx → ((((H.set nx (some ⟨.c 109, 1, [[.ptr nS 8 0 0]]⟩)).set (nx + 1) (some ⟨.c 31, 2, [[.d (eI of.kind), .d (eI of.n)]]⟩)).set (nx + 2) (some ⟨.c 31, 2, [[.d (eI which.kind), .d (eI which.n)]]⟩)).set (nx + 3) (some ⟨.c 31, 2, [[.d (eI v.kind), .d (eI v.n)]]⟩)) i = H i := fun i hi => by
    rw [Hp.set_ne _ _ (by omega), Hp.set_ne _ _ (by omega), Hp.set_ne _ _ (by omega), Hp.set_ne _ _ (by omega)]
  have hM3 : HSol ((((H.set nx (some ⟨.c 109, 1, [[.ptr nS 8 0 0]]⟩)).set (nx + 1) (some ⟨.c 31, 2, [[.d (eI of.kind), .d (eI of.n)]]⟩)).set (nx + 2) (some ⟨.c 31, 2, [[.d (eI which.kind), .d (eI which.n)]]⟩)).set (nx + 3) (some ⟨.c 31, 2, [[.d (eI v.kind), .d (eI v.n)]]⟩)) :=
    HSol.set (HSol.set (HSol.set (HSol.set hSol (by simp)) (by simp)) (by simp)) (by simp)
  have hM4 : ∀ i, nx + 4 ≤ i → ((((H.set nx (some ⟨.c 109, 1, [[.ptr nS 8 0 0]]⟩)).set (nx + 1) (some ⟨.c 31, 2, [[.d (eI of.kind), .d (eI of.n)]]⟩)).set (nx + 2) (some ⟨.c 31, 2, [[.d (eI which.kind), .d (eI which.n)]]⟩)).set (nx + 3) (some ⟨.c 31, 2, [[.d (eI v.kind), .d (eI v.n)]]⟩)) i = none := fun i hi => by
    rw [Hp.set_ne _ _ (by omega), Hp.set_ne _ _ (by omega), Hp.set_ne _ _ (by omega), Hp.set_ne _ _ (by omega)]; exact hfr i (by omega)
  have hM5 : ((((H.set nx (some ⟨.c 109, 1, [[.ptr nS 8 0 0]]⟩)).set (nx + 1) (some ⟨.c 31, 2, [[.d (eI of.kind), .d (eI of.n)]]⟩)).set (nx + 2) (some ⟨.c 31, 2, [[.d (eI which.kind), .d (eI which.n)]]⟩)).set (nx + 3) (some ⟨.c 31, 2, [[.d (eI v.kind), .d (eI v.n)]]⟩)) nx = some ⟨.c 109, 1, [[.ptr nS 8 0 0]]⟩ := by simp
  have hM6 : ((((H.set nx (some ⟨.c 109, 1, [[.ptr nS 8 0 0]]⟩)).set (nx + 1) (some ⟨.c 31, 2, [[.d (eI of.kind), .d (eI of.n)]]⟩)).set (nx + 2) (some ⟨.c 31, 2, [[.d (eI which.kind), .d (eI which.n)]]⟩)).set (nx + 3) (some ⟨.c 31, 2, [[.d (eI v.kind), .d (eI v.n)]]⟩)) (nx + 1) = some ⟨.c 31, 2, [[.d (eI of.kind), .d (eI of.n)]]⟩ := by simp
  have hM7 : ((((H.set nx (some ⟨.c 109, 1, [[.ptr nS 8 0 0]]⟩)).set (nx + 1) (some ⟨.c 31, 2, [[.d (eI of.kind), .d (eI of.n)]]⟩)).set (nx + 2) (some ⟨.c 31, 2, [[.d (eI which.kind), .d (eI which.n)]]⟩)).set (nx + 3) (some ⟨.c 31, 2, [[.d (eI v.kind), .d (eI v.n)]]⟩)) (nx + 2) = some ⟨.c 31, 2, [[.d (eI which.kind), .d (eI which.n)]]⟩ := by simp
  have hM8 : ((((H.set nx (some ⟨.c 109, 1, [[.ptr nS 8 0 0]]⟩)).set (nx + 1) (some ⟨.c 31, 2, [[.d (eI of.kind), .d (eI of.n)]]⟩)).set (nx + 2) (some ⟨.c 31, 2, [[.d (eI which.kind), .d (eI which.n)]]⟩)).set (nx + 3) (some ⟨.c 31, 2, [[.d (eI v.kind), .d (eI v.n)]]⟩)) (nx + 3) = some ⟨.c 31, 2, [[.d (eI v.kind), .d (eI v.n)]]⟩ := by simp
  generalize ((((H.set nx (some ⟨.c 109, 1, [[.ptr nS 8 0 0]]⟩)).set (nx + 1) (some ⟨.c 31, 2, [[.d (eI of.kind), .d (eI of.n)]]⟩)).set (nx + 2) (some ⟨.c 31, 2, [[.d (eI which.kind), .d (eI which.n)]]⟩)).set (nx + 3) (some ⟨.c 31, 2, [[.d (eI v.kind), .d (eI v.n)]]⟩)) = M at *
  have hSM : M nS = some (stB A s) := by rw [hM2 nS pS]; exact hS
  have hsub : ∀ i y, H i = some y → M i = some y := fun i y hy => by rw [hM2 i (fresh_lt hfr hy)]; exact hy
  refine heapSlotO_ic hM1 hSM hin of which hr (fun e5 => ?_) ?_
  · obtain ⟨a1, a2⟩ := hr e5
    rw [cellAt_eq a1 a2]
    have := (cell_vals hq (n := of.n.toNat) (by omega)).2.2
    omega
  simp
  by_cases q1 : 0 ≤ (slotW s of which).2
  · have e : putW s of which v = (s, (slotW s of which).2) := by unfold putW; rw [if_pos q1]
    rw [e] at hbad
    simp [q1]
    exact ⟨hM3, H, hsub, hbad q1 _ (by omega)⟩
  obtain ⟨k5, hk⟩ := slot_kind ((slot_le of which).resolve_right q1)
  obtain ⟨a1, a2⟩ := hr k5
  obtain ⟨n, hn⟩ : ∃ n : Nat, of.n = n := ⟨of.n.toNat, by omega⟩
  have hnl : n < s.cells.length := by omega
  have hat : cellAt s of.n = s.cells[n] := by rw [hn]; exact at_nat hnl
  have htn : of.n.toNat = n := by omega
  simp [q1, hM5, hM6]
  refine heapOfO_ic hM3 hM1 hSM of hr (fun _ nx1 hn1 => ?_) (fun h => absurd k5 h)
  rw [htn]
  obtain ⟨R, r1, r2, r3⟩ := hM1.ce
  obtain ⟨r4, r5⟩ := List.getElem?_eq_some_iff.1 (r3 n hnl)
  rw [oCe, ceR] at r5
  have m1 := n1 .c trivial
  have m2 := n1 (.cv n) hnl
  have m3 := n1 (.sh) trivial
  have e1 := hSn .c trivial
  have e2 := hSn (.cv n) hnl
  have eB : ∀ c', stB A (s.setC n c') = stB A s := fun c' => by simp [stB, oRow, GState.setC]
  have hSM' := hSM
  rw [stB, oRow] at hSM'
  by_cases q2 : 0 ≤ (slotW s of which).1
  · obtain ⟨k, hk0⟩ : ∃ k : Nat, (slotW s of which).1 = k := ⟨(slotW s of which).1.toNat, by omega⟩
    have hkl : k < s.cells[n].vals.length := slot_lt hq hnl (which := which) (by rw [← hat, ← hk0, slotW_eq, if_pos k5])
    obtain ⟨ys, y1⟩ := hM1.cv n hnl
    rw [valBlk] at y1
    have y2 := vrowG (ys := ys) hkl
    have y3 := vrowS (ys := ys) hkl v
    generalize hL : ((s.cells[n].vals ++ ys).map fun v => (eVal v).map C.d) = L at *
    obtain ⟨y4, y5⟩ := List.getElem?_eq_some_iff.1 y2
    simp [q2, hk0, r1, r4, r5, hM8, y1, y4, y5, hkl]
    have e : putW s of which v = (s.setC n ⟨s.cells[n].kind, s.cells[n].num, s.cells[n].vals.set k v, s.cells[n].frames⟩, -1) := by
      unfold putW
      rw [if_neg q1, if_pos q2, hat, htn, hk0, Int.toNat_natCast]
      rfl
    rw [e] at hok
    have O2 := hM1.cVal hnl (s.cells[n].vals.set k v) ys (by simp) (b := ⟨.c 31, 2, L.set k [.d (eI v.kind), .d (eI v.n)]⟩) (by rw [y3]; rfl)
    have sol2 : HSol (M.set (A (.cv n)) (some ⟨.c 31, 2, L.set k [.d (eI v.kind), .d (eI v.n)]⟩)) := HSol.set hM3 (by rw [y3]; exact (valBlk_new _).sol)
    refine ⟨sol2, _, fun _ _ h => h, hok rfl _ nx1 A (by omega) (fun q h1 h2 _ => ?_) (fun q h1 => ?_) sol2 O2 ?_ fun x hx => .inl ⟨x, live_lessC (c' := ⟨s.cells[n].kind, s.cells[n].num, s.cells[n].vals.set k v, s.cells[n].frames⟩) hnl (Nat.le_refl _) hx, rfl⟩⟩
    · rw [Hp.set_ne _ _ (h2 (.cv n) hnl)]; exact hM2 q h1
    · rw [Hp.set_ne _ _ (by omega)]; exact hM4 q (by omega)
    · rw [Hp.set_ne _ _ e2.symm]; exact hSM.trans (congrArg some (eB _).symm)
  · obtain ⟨zs, z1⟩ := hM1.sh
    rw [shpBlk] at z1
    simp [q2, hM5, hSM', r1, r4, r5, hM7, z1]
    rw [if_pos (shpz_isD s.shapes zs), shpz_dt]
    simp only [Option.bind_some]
    obtain ⟨L1, q, e0, hw⟩ : ∃ a b c, withP s.shapes s.cells[n].num which.n = (a, b, c) := ⟨_, _, _, rfl⟩
    refine shapeWith_ok false s.shapes hin _ _ (fun hb => ?_) (fun hb => ?_)
    · rw [hw] at hb ⊢
      simp only at hb
      have e : putW s of which v = (s, 4) := by
        unfold putW
        rw [if_neg q1, if_neg q2, hat, hw, if_pos (.inl hb)]
      rw [e] at hbad
      simp [hb]
      exact ⟨hM3, H, hsub, hbad (by omega) _ (by omega)⟩
    · rw [hw] at hb ⊢
      simp only at hb
      subst hb
      have c0 : ¬ A .c = nx1 := by omega
      have c1 : ¬ A .c = nx1 + 1 := by omega
      have c2 : ¬ A .c = nx1 + 2 := by omega
      have v0 : ¬ A (.cv n) = nx1 := by omega
      have v1 : ¬ A (.cv n) = nx1 + 1 := by omega
      have v2 : ¬ A (.cv n) = nx1 + 2 := by omega
      have s0 : ¬ nS = nx1 := by omega
      have s1 : ¬ nS = nx1 + 1 := by omega
      have s2 : ¬ nS = nx1 + 2 := by omega
      have t0 : ¬ nx = nx1 := by omega
      have t1 : ¬ nx + 1 = nx1 := by omega
      have t2 : ¬ nx + 2 = nx1 := by omega
      have t3 : ¬ nx + 3 = nx1 := by omega
      by_cases h100 : 100 ≤ s.cells[n].vals.length
      · have e : putW s of which v = (s, 4) := by
          unfold putW
          rw [if_neg q1, if_neg q2, hat, if_pos (.inr h100)]
        rw [e] at hbad
        have h100' : (100 : Int) ≤ (s.cells[n].vals.length : Int) := by omega
        simp [r1, r4, r5, h100, h100', c0, c1, c2, v0, v1, v2, s0, s1, s2, t0, t1, t2, t3]
        intro _
        exact ⟨HSol.set hM3 (shpBlk_new _).sol, H, fun i y hy => by rw [Hp.set_ne _ _ (by have := fresh_lt hfr hy; omega)]; exact hsub i y hy, hbad (by omega) _ (by omega)⟩
      obtain ⟨ys, y1⟩ := hM1.cv n hnl
      have w0 : ¬ A .c = A (.cv n) := hM1.ne (x := .c) (y := .cv n) trivial hnl (by simp)
      have w1 : ¬ A (.cv n) = A .c := fun e => w0 e.symm
      have w2 : ¬ nS = A .c := fun e => e1 e.symm
      have w3 : ¬ nS = A (.cv n) := fun e => e2 e.symm
      have x0 : ¬ nx = A .c := by omega
      have x1 : ¬ nx + 3 = A .c := by omega
      have x2 : ¬ nx = A (.cv n) := by omega
      have x3 : ¬ nx + 3 = A (.cv n) := by omega
      have x4 : ¬ nx = nS := by omega
      have x5 : ¬ nx + 3 = nS := by omega
      have x6 : ¬ nx1 = A .c := by omega
      have x7 : ¬ nx1 = A (.cv n) := by omega
      have x8 : ¬ nx1 = nS := by omega
      have x9 : ¬ nx1 + 1 = A .c := by omega
      have z0 : ¬ nx1 + 1 = A (.cv n) := by omega
      have z2 : ¬ nx1 + 1 = nS := by omega
      have z3 : ¬ nx1 + 2 = A .c := by omega
      have z4 : ¬ nx1 + 2 = A (.cv n) := by omega
      have z5 : ¬ nx1 + 2 = nS := by omega
      have u0 : ¬ nx = nx1 + 1 := by omega
      have u1 : ¬ nx = nx1 + 2 := by omega
      have u2 : ¬ nx + 3 = nx1 + 1 := by omega
      have u3 : ¬ nx + 3 = nx1 + 2 := by omega
      have hvl := (cell_vals hq hnl).2.2
      generalize hL : valBlk (s.cells[n].vals ++ ys) = VB at *
      have h100' : ¬ (100 : Int) ≤ (s.cells[n].vals.length : Int) := by omega
      have e : putW s of which v = ((s.setC n ⟨s.cells[n].kind, q, s.cells[n].vals ++ [v], s.cells[n].frames⟩).withSh L1, -1) := by
        unfold putW
        rw [if_neg q1, if_neg q2, hat, hw, if_neg (by simp; omega), htn]
        rfl
      rw [e] at hok
      have fin : ∀ Hf : Hp, HSol Hf → (∀ p, p ≠ nx1 → p ≠ nx1 + 1 → p ≠ nx1 + 2 → p ≠ nS → p ≠ A .c → p ≠ A (.cv n) → Hf p = M p) →
          Hf nS = some ⟨.c 29, 8, [[.own (A .c) 4 s.cells.length, .own nx1 2 L1.length, .own (A .tx) 1 s.texts.length, .own (A .t) 5 s.threads.length, .own (A .en) 3 s.ends.length, .own (A .sa) 2 s.said.length, .d (eI s.asked), .d (eI s.steps)]]⟩ →
          Hf (A .c) = some ⟨.c 43, 4, R.set n [.d (eI s.cells[n].kind), .d (eI q), .own (nx1 + 2) 2 (s.cells[n].vals.length + 1), .own (A (.cf n)) 8 s.cells[n].frames.length]⟩ → Hf nx1 = some (shpBlk L1) →
          Hf (nx1 + 2) = some ⟨.c 31, 2, s.cells[n].vals.map (fun v => [.d (eI v.kind), .d (eI v.n)]) ++ [[.d (eI v.kind), .d (eI v.n)]]⟩ → cutK K (dI (-1)) Hf (nx1 + 3) := by
        intro Hf solf lowf f1 f2 f3 f4
        have hlow : ∀ x, Live s x → x ≠ .cv n → x ≠ .c → Hf (A x) = M (A x) := fun x hx h1 h2 => by
          have := n1 x hx
          exact lowf _ (by omega) (by omega) (by omega) (hSn x hx) (hM1.ne hx (y := .c) trivial h2) (hM1.ne hx (y := .cv n) hnl h1)
        have O2 := hM1.cVals (H' := Hf) (i := n) (c' := ⟨s.cells[n].kind, q, s.cells[n].vals ++ [v], s.cells[n].frames⟩) hnl rfl (nx1 + 2) hlow r1 (by rw [f2]; simp [ceR]) ⟨[], by rw [f4]; simp [valBlk]⟩ (fun x hx _ => by have := n1 x hx; omega) (by omega)
        have O3 := O2.withSh (H' := Hf) nx1 L1 [] (by rw [f3, List.append_nil]) (fun x hx _ => ⟨rfl, by
          rcases atCv_or (c' := ⟨s.cells[n].kind, q, s.cells[n].vals ++ [v], s.cells[n].frames⟩) (v := nx1 + 2) hnl rfl hx with ⟨-, g⟩ | ⟨-, g1, g⟩ <;> rw [g]
          · omega
          · have := n1 x g1; omega⟩) (by omega)
        refine ⟨Hf, fun _ _ h => h, hok rfl Hf (nx1 + 3) _ (by omega) (fun p h1 h2 h3 => ?_) (fun p h1 => ?_) solf O3 ?_ fun x hx => ?_⟩
        · rw [lowf p (by omega) (by omega) (by omega) h3 (h2 .c trivial) (h2 (.cv n) hnl)]; exact hM2 p h1
        · rw [lowf p (by omega) (by omega) (by omega) (by omega) (by omega) (by omega)]; exact hM4 p (by omega)
        · rw [f1]; simp [stB, oRow, atSh, atCv, withC, GState.setC, GState.withSh]
        · by_cases h1 : x = .sh
          · subst h1; exact .inr (show nx ≤ nx1 by omega)
          · rw [atSh_ne h1]
            have hx' : Live (s.setC n ⟨s.cells[n].kind, q, s.cells[n].vals ++ [v], s.cells[n].frames⟩) x := by cases x <;> exact hx
            rcases atCv_or (c' := ⟨s.cells[n].kind, q, s.cells[n].vals ++ [v], s.cells[n].frames⟩) (v := nx1 + 2) hnl rfl hx' with ⟨-, g⟩ | ⟨-, g1, g⟩ <;> rw [g]
            · exact .inr (by omega)
            · exact .inl ⟨x, g1, rfl⟩
      rw [← hL, valBlk] at y1
      simp [r1, r4, r5, h100, h100', c0, c1, c2, v0, v1, v2, s0, s1, s2, t0, t1, t2, t3, hM5, hM8, hSM', y1, w0, w1, w2, w3, x0, x1, x2, x3, x4, x5, x6, x7, x8, x9, z0, z2, z3, z4, z5, u0, u1, u2, u3, e1, e2, Nat.add_assoc]
      refine fun _ => ⟨fun m b hm hb => ?_, .inl (by omega), ?_⟩
      · subst hm
        rw [if_neg v1, if_neg v0, y1] at hb
        simp only [Option.some.injEq] at hb
        subst hb
        exact ⟨rfl, rfl⟩
      · refine and_ofP ?_ fun hs => fin _ hs (fun p h1 h2 h3 h4 h5 h6 => ?_) ?_ ?_ ?_ ?_
        · refine HSol.set (HSol.set (HSol.set (hsolN (HSol.set (HSol.set hM3 (shpBlk_new _).sol) (by simp))) ?_) (by simp)) (newRs.set r2 (by simp)).sol
          intro e he c hc
          rcases List.mem_append.1 he with he | he
          · obtain ⟨u, -, rfl⟩ := List.mem_map.1 he
            simp at hc; rcases hc with rfl | rfl <;> rfl
          · rw [List.mem_singleton] at he; subst he; simp at hc; rcases hc with rfl | rfl <;> rfl
        · repeat rw [Hp.set_ne _ _ (by assumption)]
        all_goals repeat (first | rw [Hp.set_same] | rw [Hp.set_ne _ _ (by first | assumption | omega)])
theorem cloneTM_ok (S : Bool) (es : List (List Dt)) (hk : ∀ e ∈ es, e.length = 2) (hs : ∀ e ∈ es, ∀ x ∈ e, x.solidT = true) (hl : es.length ≤ 8796093022207) {K : D → List Blk → Prop} (h : K (.one (.own 0 2 es.length)) [⟨.c 182, 2, es.map fun e => e.map .d⟩]) :
    DPure Tryz.prog 190 [dL S es] K := by
  refine DPure.own 182 2 ?_
  refine fn_ok [0,2,4] [] Tryz.func190 rfl (by kernel_rfl) rfl rfl rfl rfl (by kernel_rfl) ?_
  have hk' : ∀ d ∈ es.map (fun e => e.map C.d), d.length = 2 := fun d hd => by
    obtain ⟨e, he, rfl⟩ := List.mem_map.1 hd
    simpa using hk e he
  have hl' : es.length ≤ 100000000000 ∨ (es.length ≤ 20000000000000 ∧ es.length * 16 ≤ 200000000000000) := .inr ⟨by omega, by omega⟩
  simp [Function.comp_def, hl']
  refine ⟨fun e => ?_, fun e he => hk e he, ?_⟩
  · subst e; exact .inr (by simpa using h)
  · rw [if_pos fun e he x hx => hs e he x hx]
    exact h
theorem cloneVM_ok (S : Bool) (es : List (List Dt)) (hk : ∀ e ∈ es, e.length = 2) (hs : ∀ e ∈ es, ∀ x ∈ e, x.solidT = true) (hl : es.length ≤ 8796093022207) {K : D → List Blk → Prop} (h : K (.one (.own 0 2 es.length)) [⟨.c 31, 2, es.map fun e => e.map .d⟩]) :
    DPure Tryz.prog 134 [dL S es] K := by
  refine DPure.own 31 2 ?_
  refine fn_ok [0,2,4] [] Tryz.func134 rfl (by kernel_rfl) rfl rfl rfl rfl (by kernel_rfl) ?_
  have hk' : ∀ d ∈ es.map (fun e => e.map C.d), d.length = 2 := fun d hd => by
    obtain ⟨e, he, rfl⟩ := List.mem_map.1 hd
    simpa using hk e he
  have hl' : es.length ≤ 100000000000 ∨ (es.length ≤ 20000000000000 ∧ es.length * 16 ≤ 200000000000000) := .inr ⟨by omega, by omega⟩
  simp [Function.comp_def, hl']
  refine ⟨fun e => ?_, fun e he => hk e he, ?_⟩
  · subst e; exact .inr (by simpa using h)
  · rw [if_pos fun e he x hx => hs e he x hx]
    exact h
theorem cloneThM_ok (S : Bool) (es : List (List Dt)) (hk : ∀ e ∈ es, e.length = 5) (hs : ∀ e ∈ es, ∀ x ∈ e, x.solidT = true) (hl : es.length ≤ 2513227452471) {K : D → List Blk → Prop} (h : K (.one (.own 0 5 es.length)) [⟨.c 119, 5, es.map fun e => e.map .d⟩]) :
    DPure Tryz.prog 132 [dL S es] K := by
  refine DPure.own 119 5 ?_
  refine fn_ok [0,2,4] [] Tryz.func132 rfl (by kernel_rfl) rfl rfl rfl rfl (by kernel_rfl) ?_
  have hk' : ∀ d ∈ es.map (fun e => e.map C.d), d.length = 5 := fun d hd => by
    obtain ⟨e, he, rfl⟩ := List.mem_map.1 hd
    simpa using hk e he
  have hl' : es.length ≤ 100000000000 ∨ (es.length ≤ 20000000000000 ∧ es.length * 56 ≤ 200000000000000) := .inr ⟨by omega, by omega⟩
  simp [Function.comp_def, hl']
  refine ⟨fun e => ?_, fun e he => hk e he, ?_⟩
  · subst e; exact .inr (by simpa using h)
  · rw [if_pos fun e he x hx => hs e he x hx]
    exact h
theorem cloneFrM_ok (S : Bool) (es : List (List Dt)) (hk : ∀ e ∈ es, e.length = 8) (hs : ∀ e ∈ es, ∀ x ∈ e, x.solidT = true) (hl : es.length ≤ 1466015503701) {K : D → List Blk → Prop} (h : K (.one (.own 0 8 es.length)) [⟨.c 142, 8, es.map fun e => e.map .d⟩]) :
    DPure Tryz.prog 189 [dL S es] K := by
  refine DPure.own 142 8 ?_
  refine fn_ok [0,2,4] [] Tryz.func189 rfl (by kernel_rfl) rfl rfl rfl rfl (by kernel_rfl) ?_
  have hk' : ∀ d ∈ es.map (fun e => e.map C.d), d.length = 8 := fun d hd => by
    obtain ⟨e, he, rfl⟩ := List.mem_map.1 hd
    simpa using hk e he
  have hl' : es.length ≤ 100000000000 ∨ (es.length ≤ 20000000000000 ∧ es.length * 96 ≤ 200000000000000) := .inr ⟨by omega, by omega⟩
  simp [Function.comp_def, hl']
  refine ⟨fun e => ?_, fun e he => hk e he, ?_⟩
  · subst e; exact .inr (by simpa using h)
  · rw [if_pos fun e he x hx => hs e he x hx]
    exact h
structure SizedM (s : GState) : Prop where
  cells : s.cells.length ≤ 300
  shapes : s.shapes.length ≤ 100
  texts : s.texts.length ≤ 300
  threads : s.threads.length ≤ 2513227452471
  ends : s.ends.length ≤ 100
  said : s.said.length ≤ 200
  cell : ∀ c ∈ s.cells, c.vals.length ≤ 8796093022207 ∧ c.frames.length ≤ 1466015503701 ∧ ∀ f ∈ c.frames, f.regs.length ≤ 8796093022207 ∧ f.tries.length ≤ 8796093022207
  thread : ∀ t ∈ s.threads, t.frames.length ≤ 1466015503701 ∧ ∀ f ∈ t.frames, f.regs.length ≤ 8796093022207 ∧ f.tries.length ≤ 8796093022207
theorem framesM_ic (S : Bool) (l : List GFrame) (hn : l.length ≤ 1466015503701) (hl : ∀ f ∈ l, f.regs.length ≤ 8796093022207 ∧ f.tries.length ≤ 8796093022207) {H : Hp} {nx : Nat} (hS : HSol H) {K : D → Hp → Nat → Prop}
    (h : ∀ H', (∀ i, i < nx → H' i = H i) → (∀ i, nx + 1 + 2 * l.length ≤ i → H' i = none) → HSol H' → FrAt H' nx l → K (.one (.own nx 8 l.length)) H' (nx + 1 + 2 * l.length)) : ICall Tryz.prog 135 [dL S (l.map eFrame)] H nx K := by
  refine ICall.fresh (by kernel_rfl) fun hfr => ?_
  refine fni_ok [0,2,3,7,8,9] [(5, [0,0,0,0,0,0,48,112,240,496,0,0,3072,7168,15360,32752,65523,131059,262131,524287,1048575,2097151], (.seg 0 (.seg 1 (.seg 2 (.seg 3 (.seg 4 (.seg 5 (.seg 6 (.seg 7 (.seg 8 (.seg 10 (.seg 11 (.seg 12 (.seg 13 (.seg 14 (.eff 9 [12, 13, 14] (.eff 15 [8, 14] (.seg 16 (.seg 17 (.eff 18 [] (.seg 19 (.seg 20 (.eff 21 [] .last)))))))))))))))))))))))] Tryz.func135 rfl (by kernel_rfl) rfl rfl rfl rfl (by kernel_rfl) ?_
  simp
  refine cloneFrM_ok S (l.map eFrame) (by simp) (by simp) (by simp; omega) ?_
  simp
  intro _
  refine loopH_ok (ks := [0,2,3,7,8,9]) (pl := [(5, [0,0,0,0,0,0,48,112,240,496,0,0,3072,7168,15360,32752,65523,131059,262131,524287,1048575,2097151], (.seg 0 (.seg 1 (.seg 2 (.seg 3 (.seg 4 (.seg 5 (.seg 6 (.seg 7 (.seg 8 (.seg 10 (.seg 11 (.seg 12 (.seg 13 (.seg 14 (.eff 9 [12, 13, 14] (.eff 15 [8, 14] (.seg 16 (.seg 17 (.eff 18 [] (.seg 19 (.seg 20 (.eff 21 [] .last)))))))))))))))))))))))]) (n0 := 33) (α := {x : HN // FrI H nx l x}) (fun x => [(8, dI x.1.k)]) (fun _ x => x.1.H) (fun x => x.1.nx) (fun x => l.length - x.1.k) ⟨⟨0, H.set nx (some (frMix nx 0 l)), nx + 1⟩, ?_⟩ rfl (by kernel_rfl) ?_ ?_
  · exact ⟨by simp, by simp, by simp, ⟨fun _ _ h => absurd h (Nat.not_lt_zero _), fun _ _ h => absurd h (Nat.not_lt_zero _)⟩, fun i hi => Hp.set_ne _ _ (by omega), fun i hi => by
      simp only at hi
      show H.set nx _ i = none
      rw [Hp.set_ne _ _ (by omega)]; exact hfr i (by omega), hS.set (frMix_sol _ _ _)⟩
  · refine Wk.subH (by simp) ?_
    simp only [frMix, mixR_zero]
    rfl
  rintro ⟨⟨k, H1, n1⟩, hk, hn1, hb, hsub, hlow, hhigh, hsol⟩
  simp only at hk hn1 hb hsub hlow hhigh hsol
  by_cases h1 : k < l.length
  · obtain ⟨g1, g2⟩ := hl _ (List.getElem_mem h1)
    have e0 : ¬ nx = n1 := by omega
    have e1 : ¬ nx = n1 + 1 := by omega
    have hr := mixR_at (own := fun i f => frRow (nx + 1 + 2 * i) (nx + 2 + 2 * i) f) (dat := frData) h1
    rw [frData] at hr
    rw [frMix] at hb
    simp [h1, hb, frData, e0, e1]
    refine cloneVM_ok true (l[k].regs.map eVal) (by simp) (by simp) (by simp; omega) ?_
    simp [h1, hb, frData, e0, e1]
    refine cloneTM_ok true (l[k].tries.map eTry) (by simp) (by simp) (by simp; omega) ?_
    simp [h1, hb, frData, e0, e1]
    have n2 : n1 + 1 = nx + 2 + 2 * k := by omega
    refine ⟨⟨k + 1, ((H1.set n1 (some (valBlk l[k].regs))).set (n1 + 1) (some (tryBlk l[k].tries))).set nx (some (frMix nx (k + 1) l)), n1 + 2⟩, by simp; omega, ⟨by simp; omega, by simp; omega, by simp, ⟨fun i hi hik => ?_, fun i hi hik => ?_⟩, fun i hi => ?_, fun i hi => ?_, ((hsol.set (valBlk_sol _)).set (tryBlk_sol _)).set (frMix_sol _ _ _)⟩, Wk.subH (by simp [wrap_add (show k < 9223372036854775807 by omega)]) ?_⟩
    · simp only at hik
      show Hp.set _ _ _ _ = _
      rw [Hp.set_ne _ _ (by omega), Hp.set_ne _ _ (by omega)]
      by_cases e : i = k
      · subst e; rw [hn1, Hp.set_same]
      · rw [Hp.set_ne _ _ (by omega)]; exact hsub.regs i hi (by omega)
    · simp only at hik
      show Hp.set _ _ _ _ = _
      rw [Hp.set_ne _ _ (by omega)]
      by_cases e : i = k
      · subst e; rw [n2, Hp.set_same]
      · rw [Hp.set_ne _ _ (by omega), Hp.set_ne _ _ (by omega)]; exact hsub.tries i hi (by omega)
    · show Hp.set _ _ _ _ = _
      rw [Hp.set_ne _ _ (by omega), Hp.set_ne _ _ (by omega), Hp.set_ne _ _ (by omega)]; exact hlow i hi
    · simp only at hi
      show Hp.set _ _ _ _ = _
      rw [Hp.set_ne _ _ (by omega), Hp.set_ne _ _ (by omega), Hp.set_ne _ _ (by omega)]; exact hhigh i (by omega)
    · rw [frMix, ← mixR_set h1, n2, hn1]
      rfl
  · obtain rfl : k = l.length := by omega
    simp [hsol]
    subst hn1
    exact h H1 hlow hhigh hsol ⟨hb, hsub⟩
theorem copyM_ic (s : GState) (hz : SizedM s) {H : Hp} {nx : Nat} (hS : HSol H) {K : D → Hp → Nat → Prop}
    (h : ∀ H', (∀ i, i < nx → H' i = H i) → (∀ i, enB (nx + 2) s ≤ i → H' i = none) → HSol H' → StAt H' (nx + 2) s → K (.agg (stRow (nx + 2) s)) H' (enB (nx + 2) s)) : ICall Tryz.prog 69 [aD (eState s)] H nx K := by
  obtain ⟨z1, z2, z3, z4, z5, z6, z7, z8⟩ := hz
  refine ICall.fresh (by kernel_rfl) fun hfr => ?_
  refine fni_ok [0,1,2,3,4,31,32,33,62,63,64] [(1, [0,1,3,0,8,31,0,64,255,0,512,2047,0,4096,16383,0,32768,131071,112351,524287,1048575,2097151,4194303,8388607,16777215,33554431,67108863,134217727,268435455,536870911], (.seg 0 (.seg 1 (.seg 3 (.seg 4 (.seg 6 (.seg 7 (.seg 9 (.seg 10 (.seg 12 (.seg 13 (.seg 15 (.seg 16 (.eff 2 [3, 4, 6, 7, 9, 10, 12, 13, 15, 16] (.seg 18 (.eff 5 [6, 7, 9, 10, 12, 13, 15, 16, 18] (.eff 8 [9, 10, 12, 13, 15, 16, 18] (.eff 11 [12, 13, 15, 16, 18] (.eff 14 [15, 16, 18] (.eff 17 [18] (.eff 19 [] (.seg 20 (.eff 21 [] (.seg 22 (.eff 23 [] (.seg 24 (.eff 25 [] (.seg 26 (.eff 27 [] (.seg 28 (.eff 29 [] .last))))))))))))))))))))))))))))))), (5, [0,1,0,0,8,0,0,64,0,448,960,1984,4032,0,8192,0,57344,122880,253952,524224,1048519,2097095,4194247,8388607,16777215,33554431], (.seg 0 (.seg 1 (.seg 2 (.seg 3 (.seg 4 (.seg 5 (.seg 6 (.seg 7 (.seg 8 (.seg 9 (.seg 10 (.seg 11 (.seg 13 (.seg 14 (.seg 15 (.seg 16 (.seg 17 (.seg 18 (.eff 12 [0, 1, 3, 4, 13, 14, 16, 17, 18] (.eff 19 [0, 1, 3, 4] (.seg 20 (.seg 21 (.eff 22 [3, 4] (.seg 23 (.seg 24 (.eff 25 [] .last))))))))))))))))))))))))))), (10, [0,1,0,0,8,0,56,120,248,504,1023,2047,4095], (.seg 0 (.seg 1 (.seg 2 (.seg 3 (.seg 4 (.seg 5 (.seg 6 (.seg 7 (.seg 8 (.eff 9 [0, 1] (.seg 10 (.seg 11 (.eff 12 [] .last))))))))))))))] Tryz.func69 rfl (by kernel_rfl) rfl rfl rfl rfl (by kernel_rfl) ?_
  simp
  refine cloneCe_ok true (s.cells.map eCell) (by simp) (by simp) (by simp; omega) ?_
  simp
  refine cloneSh_ok true (s.shapes.map eShape) (fun e he => by obtain ⟨v, -, rfl⟩ := List.mem_map.1 he; rfl) (fun e he d hd => by obtain ⟨v, -, rfl⟩ := List.mem_map.1 he; simp at hd; rcases hd with rfl | rfl <;> rfl) (by simp; omega) ?_
  simp
  refine cloneS_ok true (s.texts.map eStr) (by simp) (by simp) (by simp; omega) ?_
  simp
  refine cloneThM_ok true (s.threads.map eThread) (by simp) (by simp) (by simp; omega) ?_
  simp
  refine cloneEn_ok true (s.ends.map eEnd) (by simp) (by simp) (by simp; omega) ?_
  simp
  refine cloneVM_ok true (s.said.map eVal) (by simp) (by simp) (by simp; omega) ?_
  simp [Nat.add_assoc]
  intro _
  refine loopH_ok (ks := [0,1,2,3,4,31,32,33,62,63,64]) (pl := [(1, [0,1,3,0,8,31,0,64,255,0,512,2047,0,4096,16383,0,32768,131071,112351,524287,1048575,2097151,4194303,8388607,16777215,33554431,67108863,134217727,268435455,536870911], (.seg 0 (.seg 1 (.seg 3 (.seg 4 (.seg 6 (.seg 7 (.seg 9 (.seg 10 (.seg 12 (.seg 13 (.seg 15 (.seg 16 (.eff 2 [3, 4, 6, 7, 9, 10, 12, 13, 15, 16] (.seg 18 (.eff 5 [6, 7, 9, 10, 12, 13, 15, 16, 18] (.eff 8 [9, 10, 12, 13, 15, 16, 18] (.eff 11 [12, 13, 15, 16, 18] (.eff 14 [15, 16, 18] (.eff 17 [18] (.eff 19 [] (.seg 20 (.eff 21 [] (.seg 22 (.eff 23 [] (.seg 24 (.eff 25 [] (.seg 26 (.eff 27 [] (.seg 28 (.eff 29 [] .last))))))))))))))))))))))))))))))), (5, [0,1,0,0,8,0,0,64,0,448,960,1984,4032,0,8192,0,57344,122880,253952,524224,1048519,2097095,4194247,8388607,16777215,33554431], (.seg 0 (.seg 1 (.seg 2 (.seg 3 (.seg 4 (.seg 5 (.seg 6 (.seg 7 (.seg 8 (.seg 9 (.seg 10 (.seg 11 (.seg 13 (.seg 14 (.seg 15 (.seg 16 (.seg 17 (.seg 18 (.eff 12 [0, 1, 3, 4, 13, 14, 16, 17, 18] (.eff 19 [0, 1, 3, 4] (.seg 20 (.seg 21 (.eff 22 [3, 4] (.seg 23 (.seg 24 (.eff 25 [] .last))))))))))))))))))))))))))), (10, [0,1,0,0,8,0,56,120,248,504,1023,2047,4095], (.seg 0 (.seg 1 (.seg 2 (.seg 3 (.seg 4 (.seg 5 (.seg 6 (.seg 7 (.seg 8 (.eff 9 [0, 1] (.seg 10 (.seg 11 (.eff 12 [] .last))))))))))))))]) (n0 := 80) (α := {x : HN // CeI H nx (nx + 2) s x}) (fun x => [(32, dI x.1.k)]) (fun _ x => x.1.H) (fun x => x.1.nx) (fun x => s.cells.length - x.1.k) ⟨⟨0, cp0 H nx s, nx + 8⟩, cp0_ok hS hfr⟩ rfl (by kernel_rfl) (Wk.subH (by simp) (by simp only [cp0, ceMix, thMix, mixR_zero]; rfl)) ?_
  rintro ⟨⟨k, H1, n1⟩, hI⟩
  have hI2 := hI
  obtain ⟨hm, hk, hn1, hbox, hres, hoth, hce, hthr, hin, hlow, hhigh, hsol⟩ := hI2
  simp only at hk hn1 hbox hres hoth hce hthr hin hlow hhigh hsol
  have hn2 : nx + 8 ≤ n1 := by rw [hn1]; simp only [ceB]; omega
  have e0 : ¬ nx = n1 := by omega
  have e1 : ¬ nx + 2 = n1 := by omega
  by_cases h1 : k < s.cells.length
  · obtain ⟨g1, g2, g3⟩ := z7 _ (List.getElem_mem h1)
    have hce2 := hce
    rw [ceMix] at hce
    rw [stRow] at hbox
    simp [h1, hbox, hce, ceData, e0, e1]
    refine cloneVM_ok true (s.cells[k].vals.map eVal) (by simp) (by simp) (by simp; omega) ?_
    simp [h1, hbox, hce, ceData, e0, e1]
    refine framesM_ic true s.cells[k].frames g2 g3 (fun _ _ h => by cases h) (fun H' low' high' sol' at' => ?_)
    simp
    refine ⟨at'.newAll low' high', ?_⟩
    have d1 : Hp.mer (H1.set n1 (some (valBlk s.cells[k].vals))) (n1 + 1) H' nx = some ⟨.c 29, 8, [stRow (nx + 2) s]⟩ := by
      rw [Hp.mer_lt (by omega), Hp.set_ne _ _ (by omega)]; exact hbox
    have d2 : Hp.mer (H1.set n1 (some (valBlk s.cells[k].vals))) (n1 + 1) H' (nx + 2) = some (ceMix (ceB (nx + 2)) k s.cells) := by
      rw [Hp.mer_lt (by omega), Hp.set_ne _ _ (by omega)]; exact hce2
    have d3 : ∀ i, i < n1 → Hp.mer (H1.set n1 (some (valBlk s.cells[k].vals))) (n1 + 1) H' i = H1 i := fun i hi => by rw [Hp.mer_lt (by omega), Hp.set_ne _ _ (by omega)]
    have d4 : Hp.mer (H1.set n1 (some (valBlk s.cells[k].vals))) (n1 + 1) H' n1 = some (valBlk s.cells[k].vals) := by rw [Hp.mer_lt (by omega), Hp.set_same]
    have d5 : ∀ i, n1 + 1 ≤ i → Hp.mer (H1.set n1 (some (valBlk s.cells[k].vals))) (n1 + 1) H' i = H' i := fun i hi => Hp.mer_ge hi
    have d6 : HSol (Hp.mer (H1.set n1 (some (valBlk s.cells[k].vals))) (n1 + 1) H') := (hsol.set (valBlk_sol _)).mer sol'
    have at' : FrAt (Hp.mer (H1.set n1 (some (valBlk s.cells[k].vals))) (n1 + 1) H') (n1 + 1) s.cells[k].frames := at'.low fun i h1 _ => d5 i h1
    rw [stRow] at d1
    rw [ceMix] at d2
    rw [show (⟨.c 31, 2, s.cells[k].vals.map ((fun e => e.map C.d) ∘ eVal)⟩ : Blk) = valBlk s.cells[k].vals from rfl]
    generalize Hp.mer (H1.set n1 (some (valBlk s.cells[k].vals))) (n1 + 1) H' = M at *
    simp [h1, d1, d2, ceData, stRow]
    refine ⟨⟨k + 1, _, _⟩, ?_, CeI.next hI h1 at' d3 d4 (fun i hi => ?_) ?_ rfl, Wk.sub (by simp [wrap_add (show k < 9223372036854775807 by omega)])⟩
    · simp; omega
    · rw [d5 i (by omega)]; exact high' i (by omega)
    · exact d6
  · obtain rfl : k = s.cells.length := by omega
    rw [stRow] at hbox
    simp [hbox]
    intro _
    refine loopH_ok (ks := [0,1,2,3,4,31,32,33,62,63,64]) (pl := [(1, [0,1,3,0,8,31,0,64,255,0,512,2047,0,4096,16383,0,32768,131071,112351,524287,1048575,2097151,4194303,8388607,16777215,33554431,67108863,134217727,268435455,536870911], (.seg 0 (.seg 1 (.seg 3 (.seg 4 (.seg 6 (.seg 7 (.seg 9 (.seg 10 (.seg 12 (.seg 13 (.seg 15 (.seg 16 (.eff 2 [3, 4, 6, 7, 9, 10, 12, 13, 15, 16] (.seg 18 (.eff 5 [6, 7, 9, 10, 12, 13, 15, 16, 18] (.eff 8 [9, 10, 12, 13, 15, 16, 18] (.eff 11 [12, 13, 15, 16, 18] (.eff 14 [15, 16, 18] (.eff 17 [18] (.eff 19 [] (.seg 20 (.eff 21 [] (.seg 22 (.eff 23 [] (.seg 24 (.eff 25 [] (.seg 26 (.eff 27 [] (.seg 28 (.eff 29 [] .last))))))))))))))))))))))))))))))), (5, [0,1,0,0,8,0,0,64,0,448,960,1984,4032,0,8192,0,57344,122880,253952,524224,1048519,2097095,4194247,8388607,16777215,33554431], (.seg 0 (.seg 1 (.seg 2 (.seg 3 (.seg 4 (.seg 5 (.seg 6 (.seg 7 (.seg 8 (.seg 9 (.seg 10 (.seg 11 (.seg 13 (.seg 14 (.seg 15 (.seg 16 (.seg 17 (.seg 18 (.eff 12 [0, 1, 3, 4, 13, 14, 16, 17, 18] (.eff 19 [0, 1, 3, 4] (.seg 20 (.seg 21 (.eff 22 [3, 4] (.seg 23 (.seg 24 (.eff 25 [] .last))))))))))))))))))))))))))), (10, [0,1,0,0,8,0,56,120,248,504,1023,2047,4095], (.seg 0 (.seg 1 (.seg 2 (.seg 3 (.seg 4 (.seg 5 (.seg 6 (.seg 7 (.seg 8 (.eff 9 [0, 1] (.seg 10 (.seg 11 (.eff 12 [] .last))))))))))))))]) (n0 := 80) (α := {x : HN // ThI H nx (nx + 2) s x}) (fun x => [(63, dI x.1.k)]) (fun _ x => x.1.H) (fun x => x.1.nx) (fun x => s.threads.length - x.1.k) ⟨⟨0, H1, n1⟩, ?_⟩ rfl (by kernel_rfl) (Wk.sub (by simp)) ?_
    · exact ⟨rfl, Nat.zero_le _, by rw [hn1]; simp [ceB, thB], hI.box, hres, hoth, hce, hthr, hin, fun _ _ h => absurd h (Nat.not_lt_zero _), hlow, hhigh, hsol⟩
    clear hI hn1 hbox hres hoth hce hthr hin hlow hhigh hsol hn2 e0 e1
    rintro ⟨⟨k, H2, n2⟩, hJ⟩
    have hJ2 := hJ
    obtain ⟨-, hk2, hn1, hbox, hres, hoth, hce, hthr, hin, hth, hlow, hhigh, hsol⟩ := hJ2
    simp only at hk2 hn1 hbox hres hoth hce hthr hin hth hlow hhigh hsol
    have hn2 : nx + 8 ≤ n2 := by rw [hn1]; simp only [thB]; omega
    by_cases h2 : k < s.threads.length
    · obtain ⟨g1, g2⟩ := z8 _ (List.getElem_mem h2)
      have hbox2 := hbox
      have hthr2 := hthr
      rw [thMix] at hthr
      rw [stRow] at hbox
      simp [h2, hbox, hthr, thData]
      refine framesM_ic true s.threads[k].frames g1 g2 (fun _ _ h => by cases h) (fun H' low' high' sol' at' => ?_)
      simp
      refine ⟨at'.newAll low' high', ?_⟩
      have d3 : ∀ i, i < n2 → Hp.mer H2 n2 H' i = H2 i := fun i hi => Hp.mer_lt hi
      have d5 : ∀ i, n2 ≤ i → Hp.mer H2 n2 H' i = H' i := fun i hi => Hp.mer_ge hi
      have d1 : Hp.mer H2 n2 H' nx = some ⟨.c 29, 8, [stRow (nx + 2) s]⟩ := by rw [d3 _ (by omega)]; exact hbox2
      have d2 : Hp.mer H2 n2 H' (nx + 5) = some (thMix (thB (nx + 2) s) k s.threads) := by rw [d3 _ (by omega)]; exact hthr2
      have d6 : HSol (Hp.mer H2 n2 H') := hsol.mer sol'
      have at2 : FrAt (Hp.mer H2 n2 H') n2 s.threads[k].frames := at'.low fun i h1 _ => d5 i h1
      rw [stRow] at d1
      rw [thMix] at d2
      generalize Hp.mer H2 n2 H' = M at *
      simp [h2, d1, d2, thData, stRow]
      refine ⟨⟨k + 1, _, _⟩, ?_, ThI.next hJ h2 at2 d3 (fun i hi => ?_) d6 rfl, Wk.sub (by simp [wrap_add (show k < 9223372036854775807 by omega)])⟩
      · simp; omega
      · rw [d5 i (by omega)]; exact high' i hi
    · obtain rfl : k = s.threads.length := by omega
      rw [stRow] at hbox
      rw [nilS] at hres
      simp [hbox, hres]
      have sol2 : HSol (H2.set (nx + 1) (some ⟨.c 29, 8, [stRow (nx + 2) s]⟩)) := hsol.set (by simp [stRow])
      have ne : ∀ i, i ≠ nx + 1 → H2.set (nx + 1) (some ⟨.c 29, 8, [stRow (nx + 2) s]⟩) i = H2 i := fun i hi => Hp.set_ne _ _ hi
      refine ⟨sol2, ?_⟩
      have hn3 : n2 = enB (nx + 2) s := hn1
      subst hn3
      rw [stRow] at ne sol2
      refine h _ (fun i hi => ?_) (fun i hi => ?_) sol2 ⟨?_, ?_, ?_, ?_, ?_⟩
      · rw [ne _ (by omega)]; exact hlow i hi
      · rw [ne _ (by omega)]; exact hhigh i hi
      · exact hoth.low fun i h1 h2 h3 h4 => ne _ (by omega)
      · rw [ne _ (by omega)]; exact hce
      · rw [ne _ (by omega)]; exact hthr
      · exact hin.low (Nat.le_refl _) fun i h1 h2 => ne _ (by simp only [ceB] at h1; omega)
      · exact hth.low (Nat.le_refl _) fun i h1 h2 => ne _ (by simp only [thB] at h1; omega)
theorem copyOM_ic (s : GState) (hz : SizedM s) {H : Hp} {nx : Nat} (hS : HSol H) {K : D → Hp → Nat → Prop}
    (h : ∀ H' A nx', nx ≤ nx' → (∀ i, i < nx → H' i = H i) → (∀ i, nx' ≤ i → H' i = none) → HSol H' → OwnS H' nx A s → K (.agg (oRow A s)) H' nx') : ICall Tryz.prog 69 [aD (eState s)] H nx K :=
  copyM_ic s hz hS fun H' low high sol at1 => by
    have h1 := at1.own
    exact h H' (layS (nx + 2) s) _ (by simp only [enB, thB]; omega) low high sol ⟨h1.ce, h1.th, h1.sh, h1.tx, h1.en, h1.sa, h1.cv, h1.cf, h1.tf, h1.inj, fun x hx => by have := h1.lo x hx; omega⟩
theorem opn_triesW : Opn Tryz.prog 140 (List GTry) (fun l => [.sl true (l.map eTry)]) (fun l => l.length ≤ 8796093022207) := Opn.map (opn_sliceW (e := 182) (k := 2) (f := eTry) (by kernel_rfl) (by kernel_rfl) (by decide) (fun _ => rfl) opn_try) id (fun _ => rfl) (fun l h => by
  have h1 := h.2
  rw [show Tryz.prog.bytesOf 182 = 16 by kernel_rfl] at h1
  unfold reachBytes at h1
  show l.length ≤ _
  omega)
def okFrameW (f : GFrame) : Prop := f.regs.length ≤ 8796093022207 ∧ f.tries.length ≤ 8796093022207
theorem opn_frameW : Opn Tryz.prog 142 GFrame eFrame okFrameW :=
  Opn.map (opn_struct Tryz.underlying142 (opnF_cons (k := 1) rfl (by kernel_rfl) (fun _ => rfl) (opn_op (by kernel_rfl)) (opnF_cons (k := 1) rfl (by kernel_rfl) (fun _ => rfl) (opn_op (by kernel_rfl)) (opnF_cons (k := 1) rfl (by kernel_rfl) (fun _ => rfl) (opn_op (by kernel_rfl)) (opnF_cons (k := 1) rfl (by kernel_rfl) (fun _ => rfl) (opn_op (by kernel_rfl))
    (opnF_cons (k := 2) rfl (by kernel_rfl) (fun _ => rfl) opn_val (opnF_cons (k := 1) rfl (by kernel_rfl) (fun _ => rfl) opn_regs (opnF_cons (k := 1) rfl (by kernel_rfl) (fun _ => rfl) opn_triesW opnF_nil))))))))
    (fun x => ⟨x.1, x.2.1, x.2.2.1, x.2.2.2.1, x.2.2.2.2.1, x.2.2.2.2.2.1, x.2.2.2.2.2.2.1⟩) (fun _ => rfl) (fun _ h => ⟨h.2.2.2.2.2.1, h.2.2.2.2.2.2.1⟩)
def okFramesW (l : List GFrame) : Prop := l.length ≤ 1466015503701 ∧ ∀ f ∈ l, okFrameW f
theorem opn_framesW : Opn Tryz.prog 41 (List GFrame) (fun l => [.sl true (l.map eFrame)]) okFramesW := Opn.map (opn_sliceW (e := 142) (k := 8) (f := eFrame) (by kernel_rfl) (by kernel_rfl) (by decide) (fun _ => rfl) opn_frameW) id (fun _ => rfl) (fun l h => ⟨by
  have h1 := h.2
  rw [show Tryz.prog.bytesOf 142 = 96 by kernel_rfl] at h1
  unfold reachBytes at h1
  show l.length ≤ _
  omega, h.1⟩)
def okCellW (c : GCell) : Prop := (∀ v ∈ c.vals, InI v.n) ∧ okFramesW c.frames
theorem opn_cellW : Opn Tryz.prog 43 GCell eCell okCellW :=
  Opn.map (opn_struct Tryz.underlying43 (opnF_cons (k := 1) rfl (by kernel_rfl) (fun _ => rfl) (opn_op (by kernel_rfl)) (opnF_cons (k := 1) rfl (by kernel_rfl) (fun _ => rfl) (opn_op (by kernel_rfl)) (opnF_cons (k := 1) rfl (by kernel_rfl) (fun _ => rfl) opn_valsW (opnF_cons (k := 1) rfl (by kernel_rfl) (fun _ => rfl) opn_framesW opnF_nil)))))
    (fun x => ⟨x.1, x.2.1, x.2.2.1, x.2.2.2.1⟩) (fun _ => rfl) (fun _ h => ⟨h.2.2.1, h.2.2.2.1⟩)
theorem opn_threadW : Opn Tryz.prog 119 GThread eThread (fun t => okFramesW t.frames) :=
  Opn.map (opn_struct Tryz.underlying119 (opnF_cons (k := 1) rfl (by kernel_rfl) (fun _ => rfl) opn_framesW (opnF_cons (k := 1) rfl (by kernel_rfl) (fun _ => rfl) (opn_op (by kernel_rfl)) (opnF_cons (k := 1) rfl (by kernel_rfl) (fun _ => rfl) (opn_op (by kernel_rfl)) (opnF_cons (k := 2) rfl (by kernel_rfl) (fun _ => rfl) opn_val opnF_nil)))))
    (fun x => ⟨x.1, x.2.1, x.2.2.1, x.2.2.2.1⟩) (fun _ => rfl) (fun _ h => h.1)
theorem opn_cellsW : Opn Tryz.prog 22 (List GCell) (fun l => [.sl true (l.map eCell)]) (fun l => ∀ c ∈ l, okCellW c) := Opn.map (opn_slice (e := 43) (k := 4) (f := eCell) (by kernel_rfl) (by kernel_rfl) (by decide) (fun _ => rfl) opn_cellW) id (fun _ => rfl) (fun _ h => h)
def okThreads (l : List GThread) : Prop := l.length ≤ 2513227452471 ∧ ∀ t ∈ l, okFramesW t.frames
theorem opn_threadsW : Opn Tryz.prog 25 (List GThread) (fun l => [.sl true (l.map eThread)]) okThreads := Opn.map (opn_sliceW (e := 119) (k := 5) (f := eThread) (by kernel_rfl) (by kernel_rfl) (by decide) (fun _ => rfl) opn_threadW) id (fun _ => rfl) (fun l h => ⟨by
  have h1 := h.2
  rw [show Tryz.prog.bytesOf 119 = 56 by kernel_rfl] at h1
  unfold reachBytes at h1
  show l.length ≤ _
  omega, h.1⟩)
structure OkW (s : GState) : Prop where
  ok : okSt s
  cells : ∀ c ∈ s.cells, okFramesW c.frames
  threads : okThreads s.threads
theorem opn_stateW : Opn Tryz.prog 29 GState eState OkW :=
  Opn.map (opn_struct Tryz.underlying29 (opnF_cons (k := 1) rfl (by kernel_rfl) (fun _ => rfl) opn_cellsW (opnF_cons (k := 1) rfl (by kernel_rfl) (fun _ => rfl) opn_shapes (opnF_cons (k := 1) rfl (by kernel_rfl) (fun _ => rfl) opn_texts (opnF_cons (k := 1) rfl (by kernel_rfl) (fun _ => rfl) opn_threadsW
    (opnF_cons (k := 1) rfl (by kernel_rfl) (fun _ => rfl) opn_ends (opnF_cons (k := 1) rfl (by kernel_rfl) (fun _ => rfl) opn_vals (opnF_cons (k := 1) rfl (by kernel_rfl) (fun _ => rfl) (opn_op (by kernel_rfl)) (opnF_cons (k := 1) rfl (by kernel_rfl) (fun _ => rfl) (opn_op (by kernel_rfl)) opnF_nil)))))))))
    (fun x => ⟨x.1, x.2.1, x.2.2.1, x.2.2.2.1, x.2.2.2.2.1, x.2.2.2.2.2.1, x.2.2.2.2.2.2.1, x.2.2.2.2.2.2.2.1⟩) (fun _ => rfl) (fun x h => ⟨⟨h.2.2.1, h.2.1, fun c hc => ⟨(h.1 c hc).1, fun f hf => ((h.1 c hc).2.2 f hf).1⟩⟩, fun c hc => (h.1 c hc).2, h.2.2.2.1⟩)
theorem stateW_arg {H : Type} {enc : TypeId × Value → H} {W : World} {held : Bool} {r : Reach} {b0 : Nat} {v : Value} {d : DataW H} {ps : List MemPlace} (hval : Value.okWide Tryz.prog W r b0 29 v) (h : DataW.Trod enc Tryz.prog W 0 (fun _ => true) held 29 v d ps) (hz : ∀ y ∈ d.weights Tryz.prog 29, y ≤ reachBytes) :
    ∃ s : GState, OkW s ∧ ∀ (B : Nat → Prop) (ι : Nms), RV (Env.mk (fun b => b < W.heap.size) B) W ι (aD (eState s)) v := by
  obtain ⟨cs, rfl, hsz⟩ := WideShapes.okWide_struct Tryz.underlying29 hval
  rw [show Tryz.prog.cellsOf 29 = 8 by kernel_rfl] at hsz
  obtain ⟨m, hm⟩ := h
  rw [show (Value.agg cs).cells = cs from rfl] at hm
  obtain ⟨s, s1, s2⟩ := opn_stateW enc W held cs.toList ⟨m, _, hm, hz⟩
  refine ⟨s, s1, fun B ι => ?_⟩
  rw [RV]
  exact ⟨cs, rfl, rcs_of _ (by simp [hsz]) (s2 _ fun b hb => hb)⟩
theorem sizedM_of {s : GState} (h : cellsQ wordsT s = 0) (hw : OkW s) : SizedM s := by
  obtain ⟨g1, g2, -⟩ := cellsQ_iff.1 h
  simp only [heapLarge, Bool.or_eq_false_iff, decide_eq_false_iff_not] at g1
  have h6 : s.shapes.length ≤ 100 := (faultP_ok g2).1
  refine ⟨by omega, h6, by omega, hw.threads.1, by omega, by omega, fun c hc => ?_, fun t ht => ?_⟩
  · obtain ⟨n, hn, rfl⟩ := List.getElem_of_mem hc
    have := (cell_vals h hn).2.2
    exact ⟨by omega, (hw.cells _ hc).1, fun f hf => (hw.cells _ hc).2 f hf⟩
  · exact ⟨(hw.threads.2 t ht).1, fun f hf => (hw.threads.2 t ht).2 f hf⟩
noncomputable def askC (s : GState) (l : List GVal) : Bool := decide (cellsQ wordsT s = 0) && l.all (fitsB s)
theorem askC_iff {s : GState} {l : List GVal} : askC s l = true ↔ cellsQ wordsT s = 0 ∧ ∀ v ∈ l, fitsB s v = true := by
  unfold askC; simp
theorem asked_ok (S T : Bool) (s : GState) (hs : okSt s) (l : List GVal) {K : D → List Blk → Prop} (h : K (dB (askC s l)) []) : DPure Tryz.prog 64 [pS true s, dL S (l.map eVal)] K := by
  refine fn_ok [0,1,4] [] Tryz.func64 rfl (by kernel_rfl) rfl rfl rfl rfl (by kernel_rfl) ?_
  simp
  refine celCheck_ok s hs ?_
  by_cases c1 : cellsQ wordsT s = 0
  · simp [c1]
    refine celAll_ok S s l ?_
    simp
    exact kB h (by unfold askC; simp [c1])
  · simp [c1]
    exact kB h (by unfold askC; simp [c1])
theorem askedO_ic {s : GState} (hs : okSt s) (l : List GVal) {H : Hp} {nx n m : Nat} (hn : H n = some ⟨.c 29, 8, [(eState s).map .d]⟩) (hm : H m = some ⟨.c 31, 2, l.map fun v => (eVal v).map .d⟩) {K : D → Hp → Nat → Prop} (h : K (dB (askC s l)) H nx) :
    ICall Tryz.prog 64 [.one (.ptr n 8 0 0), .one (.own m 2 l.length)] H nx K :=
  ICall.lendL (es := [pS true s, dL true (l.map eVal)]) ⟨⟨_, rfl, CsS.atP hn trivial (CsS.dat (by simp))⟩, ⟨_, rfl, Shw.row trivial hm rfl (by simp) (by simp) (by simp) (by simp)⟩, trivial⟩ (asked_ok true true s hs l ⟨by simp, h⟩)
theorem dat_shw {H : Hp} {s : GState} {n : Nat} (hn : H n = some ⟨.c 29, 8, [(eState s).map .d]⟩) : CsShw H (fun _ => True) [.ptr n 8 0 0] [.d (.at_ true (eState s))] := ⟨⟨_, rfl, CsS.atP hn trivial (CsS.dat (by simp))⟩, trivial⟩
noncomputable def getC (s : GState) (of which : GVal) : GVal × Int := if askC s [of, which] = true then getW s of which else (⟨0, 0⟩, 6)
theorem heapGet_ok (S : Bool) (s : GState) (hin : ∀ x ∈ s.shapes, InS x) (hq : cellsQ wordsT s = 0) (of which : GVal) (ho : fitsB s of = true) {K : D → List Blk → Prop} (h : K (.tup [aD (eVal (getW s of which).1), dI (getW s of which).2]) []) : DPure Tryz.prog 67 [hpD S s, aD (eVal of), aD (eVal which)] K := by
  have hr := fits_ref ho
  have hl : of.kind = 5 → (cellAt s of.n).vals.length ≤ 1000 := fun e5 => by
    obtain ⟨a1, a2⟩ := hr e5
    rw [cellAt_eq a1 a2]
    have := (cell_vals hq (n := of.n.toNat) (by omega)).2.2
    omega
  refine fn_ok [0,1,2,3,4,5,6,7,8,9,18] [] Tryz.func67 rfl (by kernel_rfl) rfl rfl rfl rfl (by kernel_rfl) ?_
  simp
  refine heapSlot_ok S s hin of which hr hl ?_
  unfold getW at h
  by_cases c1 : (slotW s of which).1 < 0
  · rw [if_neg (by omega)] at h
    simp [c1]
    exact h
  · rw [if_pos (by omega)] at h
    have k5 : of.kind = 5 := by
      unfold slotW at c1
      by_cases e : of.kind = 5
      · exact e
      · exact absurd (by simp [e]) c1
    obtain ⟨a1, a2⟩ := hr k5
    have hat := cellAt_eq a1 a2
    obtain ⟨k, hk⟩ : ∃ k : Nat, (slotW s of which).1 = k := ⟨(slotW s of which).1.toNat, by omega⟩
    have hnl : of.n.toNat < s.cells.length := by omega
    have hkl := slot_lt hq hnl (which := which) (k := k) (by rw [← hat, ← hk, slotW_eq, if_pos k5])
    simp [c1]
    refine heapOf_ok S s of hr ?_
    rw [hk, hat] at h
    simp only [ofD, if_pos k5, hat]
    generalize s.cells[of.n.toNat] = c at *
    simp [hk, hkl]
    simp [valAt, List.getD_eq_getElem?_getD, hkl] at h
    exact h
theorem getC_ok (s : GState) (hs : okSt s) (of which : GVal) {K : D → List Blk → Prop} (h : K (.tup [aD (eVal (getC s of which).1), dI (getC s of which).2]) []) : DPure Tryz.prog 20 [aD (eState s), aD (eVal of), aD (eVal which)] K := by
  refine fn_ok [0,1,2,3,4,5,6,7,12] [] Tryz.func20 rfl (by kernel_rfl) rfl rfl rfl rfl (by kernel_rfl) ?_
  simp
  refine askedO_ic hs [of, which] (by simp) (by simp) ?_
  unfold getC at h
  by_cases c1 : askC s [of, which] = true
  · rw [if_pos c1] at h
    obtain ⟨hq, hf⟩ := askC_iff.1 c1
    simp [c1]
    refine ICall.lendL (es := [hpD true s, aD (eVal of), aD (eVal which)]) ⟨dat_shw (by simp), val_shw of, val_shw which, trivial⟩ (heapGet_ok true s hs.2.1 hq of which (hf of (by simp)) ⟨by simp, ?_⟩)
    simp
    exact h
  · rw [Bool.not_eq_true] at c1
    rw [if_neg (by rw [c1]; decide)] at h
    simp [c1]
    exact h
def emptyS : GState := ⟨[], [], [], [], [], [], 0, 0⟩
noncomputable def putC (s : GState) (of which v : GVal) : GState × Int := if askC s [of, which, v] = true then (if 0 ≤ (putW s of which v).2 then (emptyS, (putW s of which v).2) else ((putW s of which v).1, -1)) else (emptyS, 6)
theorem empty_shw {H : Hp} {N : Nat → Prop} : CsShw H N [.d .emp, .d .emp, .d .emp, .d .emp, .d .emp, .d .emp, .d (eI 0), .d (eI 0)] ((eState emptyS).map .d) := CsS.csShw (ds := eState emptyS) ⟨.emp, .emp, .emp, .emp, .emp, .emp, .d rfl, .d rfl, trivial⟩
theorem put_le (s : GState) (of which v : GVal) : (putW s of which v).2 = -1 ∨ 0 ≤ (putW s of which v).2 := by
  unfold putW
  split
  · rename_i h; exact .inr h
  · split
    · exact .inl rfl
    · split
      · exact .inr (by simp)
      · exact .inl rfl
theorem putC_ok (s : GState) (hw : OkW s) (of which v : GVal) {K : D → List Blk → Prop} (h : K (.tup [aD (eState (putC s of which v).1), dI (putC s of which v).2]) []) : DPure Tryz.prog 22 [aD (eState s), aD (eVal of), aD (eVal which), aD (eVal v)] K := by
  refine DPure.ofI ?_
  have bad : ∀ (X : Hp) (e : Int), HSol X → K (.tup [aD (eState emptyS), dI e]) [] → HSol X ∧ ∃ d', DShw X (fun _ => True) (.tup [.agg [.d .emp, .d .emp, .d .emp, .d .emp, .d .emp, .d .emp, .d (eI 0), .d (eI 0)], dI e]) d' ∧ K d' [] := fun X e hx hk => ⟨hx, .tup [aD (eState emptyS), dI e], ⟨empty_shw, ⟨_, rfl, .d rfl⟩, trivial⟩, hk⟩
  refine fni_ok [0,1,2,3,4,5,6,7,8,9,10,16,26] [] Tryz.func22 rfl (by kernel_rfl) rfl rfl rfl rfl (by kernel_rfl) ?_
  simp
  refine askedO_ic hw.ok [of, which, v] (by simp) (by simp) ?_
  unfold putC at h
  by_cases c1 : askC s [of, which, v] = true
  case neg =>
    rw [Bool.not_eq_true] at c1
    rw [if_neg (by rw [c1]; decide)] at h
    simp [c1]
    refine bad _ _ ?_ h
    repeat' (first | exact HSol.nil | exact HSol.zero | refine HSol.set ?_ ?_ | (simp; done))
  rw [if_pos c1] at h
  obtain ⟨hq, hf⟩ := askC_iff.1 c1
  simp [c1]
  refine copyOM_ic s (sizedM_of hq hw) ?_ (fun H1 A n1 hn1 low1 high1 sol1 hO => ?_)
  · repeat' (first | exact HSol.nil | exact HSol.zero | refine HSol.set ?_ ?_ | (simp; done))
  have g0 : H1 0 = some ⟨.c 29, 8, [(eState s).map .d]⟩ := by rw [low1 _ (by omega)]; simp [Hp.set]
  have g1 : H1 1 = some ⟨.c 31, 2, [[.d (eI of.kind), .d (eI of.n)]]⟩ := by rw [low1 _ (by omega)]; simp [Hp.set]
  have g2 : H1 2 = some ⟨.c 31, 2, [[.d (eI which.kind), .d (eI which.n)]]⟩ := by rw [low1 _ (by omega)]; simp [Hp.set]
  have g3 : H1 3 = some ⟨.c 31, 2, [[.d (eI v.kind), .d (eI v.n)]]⟩ := by rw [low1 _ (by omega)]; simp [Hp.set]
  have g4 : H1 4 = some ⟨.c 29, 8, [[.d .emp, .d .emp, .d .emp, .d .emp, .d .emp, .d .emp, .d (eI 0), .d (eI 0)]]⟩ := by rw [low1 _ (by omega)]; simp [Hp.set]
  clear low1
  have hn0 : ∀ x, Live s x → A x ≠ 0 := fun x hx => by have := hO.lo x hx; omega
  have O1 := hO.set_low (some (stB A s)) hn0
  have hS1 : (H1.set 0 (some (stB A s))) 0 = some (stB A s) := Hp.set_same _ _ _
  have sol2 : HSol (H1.set 0 (some (stB A s))) := sol1.set (by simp [stB, oRow])
  have k1 : (H1.set 0 (some (stB A s))) 4 = some ⟨.c 29, 8, [[.d .emp, .d .emp, .d .emp, .d .emp, .d .emp, .d .emp, .d (eI 0), .d (eI 0)]]⟩ := by rw [Hp.set_ne _ _ (by omega)]; exact g4
  rw [oRow]
  simp [g0, g1, g2, g3]
  rw [show ([C.own (A Ad.c) 4 s.cells.length, C.own (A Ad.sh) 2 s.shapes.length, C.own (A Ad.tx) 1 s.texts.length, C.own (A Ad.t) 5 s.threads.length, C.own (A Ad.en) 3 s.ends.length, C.own (A Ad.sa) 2 s.said.length, C.d (eI s.asked), C.d (eI s.steps)] : List C) = oRow A s from rfl]
  rw [show (⟨.c 29, 8, [oRow A s]⟩ : Blk) = stB A s from rfl]
  generalize H1.set 0 (some (stB A s)) = M at *
  refine heapPutO_ic hq hw.ok.2.1 of which v (hf of (by simp)) sol2 O1 hS1 hn0 (by omega) (fun hb nx2 hn2 => ?_) (fun hb H2 nx2 A2 hn2 low2 high2 sol3 O2 hS2 hn3 => ?_)
  · rw [if_pos hb] at h
    simp [hb, k1]
    exact bad _ _ (sol2.set (by simp)) h
  · rw [if_neg (by omega)] at h
    have k2 : H2 4 = some ⟨.c 29, 8, [[.d .emp, .d .emp, .d .emp, .d .emp, .d .emp, .d .emp, .d (eI 0), .d (eI 0)]]⟩ := by rw [low2 4 (by omega) (fun x hx => by have := hO.lo x hx; omega) (by omega)]; exact k1
    have O3 := O2.set_low (n := 4) (some (stB A2 (putW s of which v).1)) fun x hx => by have := O2.lo x hx; omega
    have sh := CsS.csShw (O3.shw (N := fun _ => True) fun _ _ => trivial)
    have sol4 : HSol (H2.set 4 (some (stB A2 (putW s of which v).1))) := sol3.set (by simp [stB, oRow])
    rw [stB, oRow] at hS2
    simp [hS2, k2]
    exact ⟨sol4, .tup [aD (eState (putW s of which v).1), dI (-1)], ⟨sh, ⟨_, rfl, .d rfl⟩, trivial⟩, h⟩
end Go.Proofs.YtomhiphiogbbiaaGreatDoor
