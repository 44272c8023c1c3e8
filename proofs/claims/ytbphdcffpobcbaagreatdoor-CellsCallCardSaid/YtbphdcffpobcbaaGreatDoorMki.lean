/- Several texts in one. -/
import Derived.Test.YtbphdcffpobcbaaGreatDoorMke
import Derived.Test.YtbphdcffpobcbaaGreatDoorMkg
set_option linter.unusedSimpArgs false
set_option linter.unusedVariables false
set_option maxRecDepth 100000
set_option maxHeartbeats 16000000
namespace Go.Proofs.YtbphdcffpobcbaaGreatDoor
open Go.RowKit Go
theorem addC_live {s : GState} {c : GCell} (hfr : c.frames = []) {x : Ad} (hx : Live (s.addC c) x) (e : x ≠ .c) : (x = .cv s.cells.length) ∨ (x = .cf s.cells.length) ∨ (Live s x ∧ ¬ ofC s.cells.length x) := by
  cases x with
  | c => exact absurd rfl e
  | cv i =>
    have hx : i < (s.cells ++ [c]).length := hx
    simp at hx
    by_cases e : i = s.cells.length
    · exact .inl (by rw [e])
    · exact .inr (.inr ⟨show i < s.cells.length by omega, e⟩)
  | cf i =>
    have hx : i < (s.cells ++ [c]).length := hx
    simp at hx
    by_cases e : i = s.cells.length
    · exact .inr (.inl (by rw [e]))
    · exact .inr (.inr ⟨show i < s.cells.length by omega, e⟩)
  | cr i j =>
    obtain ⟨d, h1, h2⟩ := hx
    simp only [GState.addC] at h1
    rw [List.getElem?_append] at h1
    split at h1
    · exact .inr (.inr ⟨⟨d, h1, h2⟩, fun e => by simp only [ofC] at e; omega⟩)
    · rw [List.getElem?_singleton] at h1
      split at h1
      · simp only [Option.some.injEq] at h1; subst h1; rw [hfr] at h2; simp at h2
      · cases h1
  | ct i j =>
    obtain ⟨d, h1, h2⟩ := hx
    simp only [GState.addC] at h1
    rw [List.getElem?_append] at h1
    split at h1
    · exact .inr (.inr ⟨⟨d, h1, h2⟩, fun e => by simp only [ofC] at e; omega⟩)
    · rw [List.getElem?_singleton] at h1
      split at h1
      · simp only [Option.some.injEq] at h1; subst h1; rw [hfr] at h2; simp at h2
      · cases h1
  | _ => exact .inr (.inr ⟨hx, fun e => e⟩)
theorem make_ic {H : Hp} {lo nx nS : Nat} {A : Ad → Nat} {s : GState} (hq : cellsQ wordsT s = 0) (c : GCell) (v f : Nat) (ys : List GVal) (hcf : c.frames = []) (hv : H v = some (valBlk (c.vals ++ ys))) (hf : H f = some ⟨.c 100, 8, []⟩) (hvf : v ≠ f) (hk : ∀ x, Live s x → A x ≠ v ∧ A x ≠ f) (hvl : lo ≤ v ∧ lo ≤ f) (hvS : v ≠ nS ∧ f ≠ nS)
    (hSol : HSol H) (hO : OwnS H lo A s) (hS : H nS = some (stB A s)) (hSn : ∀ x, Live s x → A x ≠ nS) (hlo : lo ≤ nx) {K : D → Hp → Nat → Prop}
    (hbad : 300 ≤ s.cells.length → ∀ nx', nx ≤ nx' → K (.tup [aD (eVal nilG), dI 4]) H nx')
    (hok : ¬ 300 ≤ s.cells.length → ∀ H' nx' A', nx ≤ nx' → (∀ q, q < nx → (∀ x, Live s x → q ≠ A x) → q ≠ nS → H' q = H q) → (∀ q, nx' ≤ q → H' q = none) → HSol H' → OwnS H' lo A' (s.addC c) → H' nS = some (stB A' (s.addC c)) → (∀ x, Live (s.addC c) x → (∃ y, Live s y ∧ A' x = A y) ∨ A' x = v ∨ A' x = f ∨ nx ≤ A' x) → K (.tup [aD (eVal ⟨5, s.cells.length⟩), dI (-1)]) H' nx') :
    ICall Tryz.prog 81 [hpO nS, .agg [.d (eI c.kind), .d (eI c.num), .own v 2 c.vals.length, .own f 8 0]] H nx K := by
  refine ICall.fresh (by kernel_rfl) fun hfr => ICall.cut ?_
  have n1 : ∀ x, Live s x → A x < nx := fun x hx => hO.lt hfr hx
  have pS := fresh_lt hfr hS
  have pv := fresh_lt hfr hv
  have pf := fresh_lt hfr hf
  obtain ⟨R, r1, r2, r3⟩ := hO.ce
  have rl : s.cells.length ≤ R.length := by
    rcases Nat.eq_zero_or_pos s.cells.length with h0 | h0
    · omega
    · have := List.getElem?_eq_some_iff.1 (r3 (s.cells.length - 1) (by omega))
      obtain ⟨h, -⟩ := this
      omega
  have hS' := hS
  rw [stB, oRow] at hS'
  have m1 := n1 .c trivial
  have hc1 := hSn .c trivial
  have b1 : ¬ nS = nx + 2 := by omega
  have b2 : ¬ nS = nx + 3 := by omega
  have b3 : ¬ nS = nx + 4 := by omega
  have b4 : ¬ A .c = nx + 2 := by omega
  have b5 : ¬ A .c = nx + 3 := by omega
  have b6 : ¬ A .c = nx + 4 := by omega
  have b7 : ¬ nS = A .c := fun e => hc1 e.symm
  have b8 : ¬ A .c = nS := hc1
  have b9 : ¬ nx = nS := by omega
  have b10 : ¬ nx = A .c := by omega
  have b11 : ¬ nx + 2 = nS := by omega
  have b12 : ¬ nx + 2 = A .c := by omega
  have b13 : ¬ nx + 3 = A .c := by omega
  have b14 : ¬ nx + 4 = A .c := by omega
  have b15 : ¬ nx + 4 = nS := by omega
  have b16 : ¬ nS = nx := by omega
  have b17 : ¬ nS = nx + 1 := by omega
  have b18 : ¬ A .c = nx := by omega
  have b19 : ¬ A .c = nx + 1 := by omega
  have b20 : ¬ nx + 1 = nS := by omega
  have b21 : ¬ nx + 1 = A .c := by omega
  have b22 : ¬ nx + 3 = nS := by omega
  refine fni_ok [0,1,2,3,4,5,12] [(3, [0,1,0,4,12,28,60,0,128,508,1023,2047,4095], (.seg 0 (.seg 2 (.seg 3 (.seg 4 (.seg 5 (.seg 6 (.seg 7 (.fork 1 [2, 3, 4, 5, 6, 7] (.eff 8 [2, 3, 4, 5, 6] (.eff 9 [] (.seg 10 (.seg 11 (.eff 12 [] .last))))) (.eff 8 [0, 2, 3, 4, 5, 6] (.fork 1 [2, 3, 4, 5, 6] (.eff 9 [] (.seg 10 (.seg 11 (.eff 12 [] .last)))) (.eff 9 [0] (.eff 1 [] (.seg 10 (.seg 11 (.eff 12 [] .last))))))))))))))))] Tryz.func81 rfl (by kernel_rfl) rfl rfl rfl rfl (by kernel_rfl) ?_
  by_cases c1 : 300 ≤ s.cells.length
  · have c1' : (300 : Int) ≤ (s.cells.length : Int) := by omega
    simp [Nat.add_assoc, hS', c1, c1', b1, b2, b3, b16, b17]
    intro _
    exact ⟨HSol.set (HSol.set (HSol.set hSol (by simp)) (by simp)) (by simp), H, fun i y hy => by
      have := fresh_lt hfr hy
      rw [Hp.set_ne _ _ (by omega), Hp.set_ne _ _ (by omega), Hp.set_ne _ _ (by omega)]; exact hy, hbad c1 _ (by omega)⟩
  have c1' : ¬ (300 : Int) ≤ (s.cells.length : Int) := by omega
  have hw1 : IntKind.i64.wrap ((s.cells.length : Int) + 1 - 1) = s.cells.length := by rw [wrap_id (by omega) (by omega)]; omega
  have hw2 : IntKind.i64.wrap (s.cells.length : Int) = s.cells.length := wrap_id (by omega) (by omega)
  simp [Nat.add_assoc, hS', c1, c1', r1, rl, b1, b2, b3, b4, b5, b6, b7, b8, b9, b10, b11, b12, b13, b14, b15, b16, b17, b18, b19, b20, b21, b22, hw1, hw2]
  have fin : ∀ Hf : Hp, HSol Hf → (∀ p, p < nx → p ≠ A .c → p ≠ nS → Hf p = H p) → (∀ p, nx + 5 ≤ p → Hf p = none) → Hf (nx + 4) = some ⟨.c 75, 4, R.take s.cells.length ++ [[.d (eI c.kind), .d (eI c.num), .own v 2 c.vals.length, .own f 8 0]]⟩ →
      Hf nS = some ⟨.c 29, 8, [[.own (nx + 4) 4 (s.cells.length + 1), .own (A .sh) 2 s.shapes.length, .own (A .tx) 1 s.texts.length, .own (A .t) 5 s.threads.length, .own (A .en) 3 s.ends.length, .own (A .sa) 2 s.said.length, .d (eI s.asked), .d (eI s.steps)]]⟩ → cutK K (.tup [aD (eVal ⟨5, s.cells.length⟩), dI (-1)]) Hf (nx + 5) := by
    intro Hf solf lowf highf f1 f2
    have l1 : Hf v = H v := lowf v pv (fun e => (hk .c trivial).1 e.symm) hvS.1
    have l2 : Hf f = H f := lowf f pf (fun e => (hk .c trivial).2 e.symm) hvS.2
    have O2 := hO.addC (H' := Hf) (nx + 4) v f c hcf (R := R.take s.cells.length) f1 (fun e he => r2 e (List.mem_of_mem_take he)) (by rw [List.length_take]; omega) (fun i h => by rw [List.getElem?_take_of_lt h]; exact r3 i h) ⟨ys, by rw [l1]; exact hv⟩ ⟨[], by rw [l2]; exact hf, by simp [newRs]⟩ hvf ⟨by omega, by omega⟩
      (fun x hx he => ⟨lowf _ (n1 x hx) (hO.ne hx (y := .c) trivial he) (hSn x hx), by have := n1 x hx; omega, (hk x hx).1, (hk x hx).2⟩) ⟨by omega, hvl.1, hvl.2⟩
    refine ⟨Hf, fun _ _ h => h, hok c1 Hf (nx + 5) _ (by omega) (fun q h1 h2 h3 => lowf q h1 (h2 .c trivial) h3) highf solf O2 ?_ fun x hx => ?_⟩
    · rw [f2]; simp [stB, oRow, atCe, withC, GState.addC]
    · by_cases e : x = .c
      · subst e; exact .inr (.inr (.inr (show nx ≤ nx + 4 by omega)))
      rw [atCe_ne e]
      rcases addC_live hcf hx e with rfl | rfl | ⟨g1, g2⟩
      · exact .inr (.inl (by simp [withC]))
      · exact .inr (.inr (.inl (by simp [withC])))
      · exact .inl ⟨x, g1, withC_out g2⟩
  refine fun _ => ⟨fun m b hm hb => ?_, .inl (by omega), fun _ => ?_⟩
  · subst hm
    rw [if_neg b5, if_neg b4, if_neg b19, if_neg b18, r1] at hb
    simp only [Option.some.injEq] at hb
    subst hb
    exact ⟨rfl, rfl⟩
  refine and_ofP ?_ fun hs => fin _ hs (fun p h1 h2 h3 => ?_) (fun p h1 => ?_) ?_ ?_
  · refine HSol.set (HSol.set (HSol.set (hsolN (HSol.set (HSol.set (HSol.set (HSol.set hSol (by simp)) (by simp)) (by simp)) (by simp))) ?_) (by simp)) (by simp)
    intro e he d hd
    rcases List.mem_append.1 he with he | he
    · exact newRs.sol r2 e (List.mem_of_mem_take he) d hd
    · rw [List.mem_singleton] at he; subst he; simp at hd; rcases hd with rfl | rfl | rfl | rfl <;> rfl
  · repeat rw [Hp.set_ne _ _ (by first | assumption | omega)]
  · repeat rw [Hp.set_ne _ _ (by first | assumption | omega)]
    exact hfr p (by omega)
  · repeat (first | rw [Hp.set_same] | rw [Hp.set_ne _ _ (by first | assumption | omega)])
  · repeat (first | rw [Hp.set_same] | rw [Hp.set_ne _ _ (by first | assumption | omega)])
structure KyS2 where
  k : Nat
  H : Hp
  nx : Nat
  q : Nat
structure KyI (M : Hp) (n0 : Nat) (Q : List Int) (x : KyS2) : Prop where
  k : x.k ≤ Q.length
  q : n0 ≤ x.q ∧ x.q < x.nx
  blk : x.H x.q = some (valBlk ((Q.take x.k).map fun n => ⟨4, n⟩))
  low : ∀ i, i < n0 → x.H i = M i
  sol : HSol x.H
theorem keys_ic {H : Hp} {lo nx nS : Nat} {A : Ad → Nat} {s : GState} (hq : cellsQ wordsT s = 0) (hin : ∀ x ∈ s.shapes, InS x) (S : Bool) (a : GVal) (ha : namesB s a 1 = true) (hSol : HSol H) (hO : OwnS H lo A s) (hS : H nS = some (stB A s)) (hSn : ∀ x, Live s x → A x ≠ nS) (hlo : lo ≤ nx) {K : D → Hp → Nat → Prop} (hK : CallK H nx lo nS A s (keysW s a) K) :
    ICall Tryz.prog 82 [hpO nS, dI 3, dL S [eVal a]] H nx K := by
  refine ICall.fresh (by kernel_rfl) fun hfr => ICall.cut ?_
  have n1 : ∀ x, Live s x → A x < nx := fun x hx => hO.lt hfr hx
  have pS := fresh_lt hfr hS
  obtain ⟨n, hnl, rfl, hat, hk⟩ := names_cell ha
  obtain ⟨o1, o2, o3⟩ := obj_len hq hnl hk
  refine fni_ok [0,1,2,3,6,7,8,9,10,11,13,14,15,21,22,29,49,57,78,89,90,91,92,107,115,143,156,159,161] [(1, [0,0,2,6,15,31], (.seg 0 (.seg 1 (.seg 2 (.seg 3 (.eff 4 [] (.seg 5 .last))))))), (6, [0,0,2,6,14,0,32,96,224,510,1023,2047,4095], (.seg 0 (.seg 1 (.seg 2 (.seg 3 (.seg 4 (.seg 5 (.seg 6 (.seg 7 (.eff 8 [2, 3, 4] (.eff 9 [] (.seg 10 (.seg 11 (.eff 12 [] .last)))))))))))))), (17, [0,1,3,7,15,0,32,96,224,511,1023,0], (.seg 0 (.seg 1 (.seg 2 (.seg 3 (.seg 4 (.seg 5 (.seg 6 (.seg 7 (.seg 8 (.seg 11 (.eff 9 [] (.seg 10 .last))))))))))))), (26, [0,1,0,4,12,28,60,0,128,384,896,0,2048,6144,16256,32640,65532,131071,262143,524287], (.seg 0 (.seg 2 (.seg 3 (.seg 4 (.seg 5 (.seg 6 (.seg 7 (.seg 8 (.seg 9 (.seg 10 (.seg 11 (.seg 12 (.seg 13 (.seg 14 (.fork 1 [2, 3, 4, 5, 6, 8, 9, 10, 12, 13, 14] (.eff 15 [2, 3, 4, 5, 6] (.eff 16 [] (.seg 17 (.seg 18 (.eff 19 [] .last))))) (.eff 15 [0, 2, 3, 4, 5, 6] (.fork 1 [2, 3, 4, 5, 6] (.eff 16 [] (.seg 17 (.seg 18 (.eff 19 [] .last)))) (.eff 16 [0] (.eff 1 [] (.seg 17 (.seg 18 (.eff 19 [] .last))))))))))))))))))))))), (32, [0,1,3,7,0,31,63,0,128,384,1023], (.seg 0 (.seg 1 (.seg 2 (.seg 3 (.seg 4 (.seg 5 (.seg 6 (.seg 7 (.seg 8 (.seg 9 (.seg 10 .last)))))))))))), (38, [0,0,0,0,8,24,0,64,192,511], (.seg 0 (.seg 1 (.seg 2 (.seg 3 (.seg 4 (.seg 5 (.seg 6 (.seg 7 (.seg 8 (.eff 9 [] .last)))))))))))] Tryz.func82 rfl (by kernel_rfl) rfl rfl rfl rfl (by kernel_rfl) ?_
  simp [Nat.add_assoc]
  have hM1 : OwnS ((H.set nx (some ⟨.c 65, 1, [[.ptr nS 8 0 0]]⟩)).set (nx + 1) (some ⟨.c 31, 2, [[.d (.lit (.int .i64 0)), .d (.lit (.int .i64 0))]]⟩)) lo A s := (hO.set_low _ fun x hx => by have := n1 x hx; omega).set_low _ fun x hx => by have := n1 x hx; omega
  have hM2 : ∀ i, i < nx → ((H.set nx (some ⟨.c 65, 1, [[.ptr nS 8 0 0]]⟩)).set (nx + 1) (some ⟨.c 31, 2, [[.d (.lit (.int .i64 0)), .d (.lit (.int .i64 0))]]⟩)) i = H i := fun i hi => by rw [Hp.set_ne _ _ (by omega), Hp.set_ne _ _ (by omega)]
  have hM3 : HSol ((H.set nx (some ⟨.c 65, 1, [[.ptr nS 8 0 0]]⟩)).set (nx + 1) (some ⟨.c 31, 2, [[.d (.lit (.int .i64 0)), .d (.lit (.int .i64 0))]]⟩)) := HSol.set (HSol.set hSol (by simp)) (by simp)
  have hM4 : ∀ i, nx + 2 ≤ i → ((H.set nx (some ⟨.c 65, 1, [[.ptr nS 8 0 0]]⟩)).set (nx + 1) (some ⟨.c 31, 2, [[.d (.lit (.int .i64 0)), .d (.lit (.int .i64 0))]]⟩)) i = none := fun i hi => by rw [Hp.set_ne _ _ (by omega), Hp.set_ne _ _ (by omega)]; exact hfr i (by omega)
  have hM5 : ((H.set nx (some ⟨.c 65, 1, [[.ptr nS 8 0 0]]⟩)).set (nx + 1) (some ⟨.c 31, 2, [[.d (.lit (.int .i64 0)), .d (.lit (.int .i64 0))]]⟩)) nx = some ⟨.c 65, 1, [[.ptr nS 8 0 0]]⟩ := by simp
  have hM6 : ((H.set nx (some ⟨.c 65, 1, [[.ptr nS 8 0 0]]⟩)).set (nx + 1) (some ⟨.c 31, 2, [[.d (.lit (.int .i64 0)), .d (.lit (.int .i64 0))]]⟩)) (nx + 1) = some ⟨.c 31, 2, [[.d (.lit (.int .i64 0)), .d (.lit (.int .i64 0))]]⟩ := by simp
  generalize ((H.set nx (some ⟨.c 65, 1, [[.ptr nS 8 0 0]]⟩)).set (nx + 1) (some ⟨.c 31, 2, [[.d (.lit (.int .i64 0)), .d (.lit (.int .i64 0))]]⟩)) = M at *
  have hSM : M nS = some (stB A s) := by rw [hM2 nS pS]; exact hS
  have hsub : ∀ i y, H i = some y → M i = some y := fun i y hy => by rw [hM2 i (fresh_lt hfr hy)]; exact hy
  have hr : RefOk s ⟨5, n⟩ := fun _ => ⟨Int.natCast_nonneg n, by simpa using hnl⟩
  refine heapOfO_ic hM3 hM1 hSM ⟨5, n⟩ hr (fun _ nx1 hn1 => ?_) (fun h => absurd rfl h)
  rw [show (⟨5, (n : Int)⟩ : GVal).n.toNat = n from Int.toNat_natCast n]
  obtain ⟨R, r1, r2, r3⟩ := hM1.ce
  obtain ⟨r4, r5⟩ := List.getElem?_eq_some_iff.1 (r3 n hnl)
  rw [oCe, ceR] at r5
  have m1 := n1 .c trivial
  have m2 := n1 (.cv n) hnl
  have hc1 := hSn .c trivial
  have hc2 := hSn (.cv n) hnl
  have eB : ∀ c', stB A (s.setC n c') = stB A s := fun c' => by simp [stB, oRow, GState.setC]
  have hSM' := hSM
  rw [stB, oRow] at hSM'
  have hvl := (cell_vals hq hnl).2.2
  have b1 : ¬ A .c = nx1 := by omega
  have b2 : ¬ A .c = nx1 + 1 := by omega
  have b3 : ¬ A .c = nx + 1 := by omega
  have b4 : ¬ A (.cv n) = nx1 := by omega
  have b5 : ¬ A (.cv n) = nx1 + 1 := by omega
  have b6 : ¬ A (.cv n) = nx + 1 := by omega
  have b7 : ¬ nx + 1 = nx1 := by omega
  have b8 : ¬ nx + 1 = nx1 + 1 := by omega
  have b9 : ¬ nx + 1 = A .c := by omega
  have b10 : ¬ nx + 1 = A (.cv n) := by omega
  have b11 : ¬ A .c = A (.cv n) := hM1.ne (x := .c) (y := .cv n) trivial hnl (by simp)
  have b12 : ¬ A (.cv n) = A .c := fun e => b11 e.symm
  have b13 : ¬ nx1 + 1 = A .c := by omega
  have b14 : ¬ nx1 + 1 = nx + 1 := by omega
  have b15 : ¬ nx1 = A .c := by omega
  have b16 : ¬ nx1 = nx + 1 := by omega
  have b17 : ¬ nS = nx1 := by omega
  have b18 : ¬ nS = nx1 + 1 := by omega
  have b19 : ¬ nS = nx + 1 := by omega
  have b20 : ¬ nS = A .c := fun e => hc1 e.symm
  have b21 : ¬ nS = A (.cv n) := fun e => hc2 e.symm
  have b22 : ¬ nx = nx1 := by omega
  have b23 : ¬ nx = A .c := by omega
  have b24 : ¬ nx = nx + 1 := by omega
  obtain ⟨zs, z1⟩ := hM1.sh
  rw [shpBlk] at z1
  have m3 := n1 .sh trivial
  unfold keysW at hK
  rw [hat] at hK
  obtain ⟨Q, hQ⟩ : ∃ Q, Q = namesQ s.shapes s.cells[n].num := ⟨_, rfl⟩
  rw [← hQ] at o3 hK
  simp [r1, r4, r5, hM5, hM6, hSM', z1]
  rw [if_pos (shpz_isD s.shapes zs), shpz_dt]
  simp only [Option.bind_some]
  refine shapeNames1_ok false s.shapes hin _ ?_
  rw [← hQ]
  simp
  intro _
  have hQl : Q.length ≤ 600 := by omega
  obtain ⟨M1, hM1e⟩ : ∃ M1, M1 = M.set nx1 (some ⟨.c 3, 1, iRows Q⟩) := ⟨_, rfl⟩
  rw [← hM1e]
  have iSol : HSol M1 := by rw [hM1e]; exact HSol.set hM3 (by simp [iRows])
  have iLow : ∀ i, i < nx1 → M1 i = M i := fun i hi => by rw [hM1e, Hp.set_ne _ _ (by omega)]
  have iAt : M1 nx1 = some ⟨.c 3, 1, iRows Q⟩ := by rw [hM1e]; exact Hp.set_same _ _ _
  clear hM1e
  refine loopH_ok (ks := [0,1,2,3,6,7,8,9,10,11,13,14,15,21,22,29,49,57,78,89,90,91,92,107,115,143,156,159,161]) (pl := [(1, [0,0,2,6,15,31], (.seg 0 (.seg 1 (.seg 2 (.seg 3 (.eff 4 [] (.seg 5 .last))))))), (6, [0,0,2,6,14,0,32,96,224,510,1023,2047,4095], (.seg 0 (.seg 1 (.seg 2 (.seg 3 (.seg 4 (.seg 5 (.seg 6 (.seg 7 (.eff 8 [2, 3, 4] (.eff 9 [] (.seg 10 (.seg 11 (.eff 12 [] .last)))))))))))))), (17, [0,1,3,7,15,0,32,96,224,511,1023,0], (.seg 0 (.seg 1 (.seg 2 (.seg 3 (.seg 4 (.seg 5 (.seg 6 (.seg 7 (.seg 8 (.seg 11 (.eff 9 [] (.seg 10 .last))))))))))))), (26, [0,1,0,4,12,28,60,0,128,384,896,0,2048,6144,16256,32640,65532,131071,262143,524287], (.seg 0 (.seg 2 (.seg 3 (.seg 4 (.seg 5 (.seg 6 (.seg 7 (.seg 8 (.seg 9 (.seg 10 (.seg 11 (.seg 12 (.seg 13 (.seg 14 (.fork 1 [2, 3, 4, 5, 6, 8, 9, 10, 12, 13, 14] (.eff 15 [2, 3, 4, 5, 6] (.eff 16 [] (.seg 17 (.seg 18 (.eff 19 [] .last))))) (.eff 15 [0, 2, 3, 4, 5, 6] (.fork 1 [2, 3, 4, 5, 6] (.eff 16 [] (.seg 17 (.seg 18 (.eff 19 [] .last)))) (.eff 16 [0] (.eff 1 [] (.seg 17 (.seg 18 (.eff 19 [] .last))))))))))))))))))))))), (32, [0,1,3,7,0,31,63,0,128,384,1023], (.seg 0 (.seg 1 (.seg 2 (.seg 3 (.seg 4 (.seg 5 (.seg 6 (.seg 7 (.seg 8 (.seg 9 (.seg 10 .last)))))))))))), (38, [0,0,0,0,8,24,0,64,192,511], (.seg 0 (.seg 1 (.seg 2 (.seg 3 (.seg 4 (.seg 5 (.seg 6 (.seg 7 (.seg 8 (.eff 9 [] .last)))))))))))]) (n0 := 182) (α := {x : KyS2 // KyI M1 (nx1 + 1) Q x}) (fun x => [(11, .one (.own x.1.q 2 x.1.k)), (91, dI x.1.k)]) (fun _ x => x.1.H) (fun x => x.1.nx) (fun x => Q.length - x.1.k)
    ⟨⟨0, M1.set (nx1 + 1) (some ⟨.c 31, 2, []⟩), nx1 + 2, nx1 + 1⟩, ⟨Nat.zero_le _, ⟨by simp only; omega, by simp only; omega⟩, Hp.set_same _ _ _, fun i hi => Hp.set_ne _ _ (by omega), iSol.set (by simp)⟩⟩ rfl (by kernel_rfl) ((Wk.emp (t := 11) 31 2 rfl).trans (Wk.sub (by simp))) ?_
  rintro ⟨⟨k, H2, nx2, q⟩, ⟨hk2, hqb, hblk, hlow, hsol⟩⟩
  simp only at hk2 hqb hblk hlow hsol
  have j1 : H2 nx1 = some ⟨.c 3, 1, iRows Q⟩ := by rw [hlow _ (by omega)]; exact iAt
  by_cases h1 : k < Q.length
  · have g1 : (iRows Q)[k]? = some [.d (eI Q[k])] := by simp [iRows, h1]
    obtain ⟨g2, g3⟩ := List.getElem?_eq_some_iff.1 g1
    have d1 : ¬ nx1 = nx2 := by omega
    have d2 : ¬ q = nx2 := by omega
    have d3 : ¬ nx2 = q := by omega
    obtain ⟨L, hLe⟩ : ∃ L, L = (Q.take k).map fun n => (⟨4, n⟩ : GVal) := ⟨_, rfl⟩
    have hLl : L.length = k := by rw [hLe]; simp; omega
    have hb2 : H2 q = some (valBlk L) := by rw [hLe]; exact hblk
    have hnext : (Q.take (k + 1)).map (fun n => (⟨4, n⟩ : GVal)) = L ++ [⟨4, Q[k]⟩] := by rw [List.take_succ_eq_append_getElem h1, List.map_append, ← hLe]; rfl
    obtain ⟨w, hwe⟩ : ∃ w, w = Q[k] := ⟨_, rfl⟩
    rw [← hwe] at g3 hnext
    clear hLe
    obtain rfl : k = L.length := hLl.symm
    rw [valBlk] at hb2
    simp [h1, j1, g1, g2, g3, hb2, d1, d2, d3, ← hwe]
    have f1 : H2.set nx2 (some ⟨.c 31, 2, [[.d (.lit (.int .i64 4)), .d (eI w)]]⟩) q = some ⟨.c 31, 2, L.map fun v => [.d (eI v.kind), .d (eI v.n)]⟩ := by rw [Hp.set_ne _ _ d2]; exact hb2
    refine ⟨fun m b hm hb => ?_, .inl (by omega), ⟨L.length + 1, ((H2.set nx2 (some ⟨.c 31, 2, [[.d (.lit (.int .i64 4)), .d (eI w)]]⟩)).set q none).set (nx2 + 1) (some ⟨.c 31, 2, (L.map fun v => [.d (eI v.kind), .d (eI v.n)]) ++ [[.d (.lit (.int .i64 4)), .d (eI w)]]⟩), nx2 + 1 + 1, nx2 + 1⟩, by simp only; omega, ⟨by simp only; omega, ⟨by simp only; omega, by simp only; omega⟩, ?_, fun i hi => ?_, ?_⟩, Wk.sub (by simp [wrap_add (show L.length < 9223372036854775807 by omega)])⟩
    · subst hm
      rw [if_neg d2, hb2] at hb
      simp only [Option.some.injEq] at hb
      subst hb
      exact ⟨rfl, rfl⟩
    · simp only
      rw [Hp.set_same, hnext]
      simp [valBlk]
    · simp only
      rw [Hp.set_ne _ _ (by omega), Hp.set_ne _ _ (by omega), Hp.set_ne _ _ (by omega)]; exact hlow i hi
    · simp only
      refine HSol.set (hsolN (HSol.set hsol (by simp))) ?_
      intro e he c hc
      rcases List.mem_append.1 he with he | he
      · obtain ⟨u, -, rfl⟩ := List.mem_map.1 he
        simp at hc; rcases hc with rfl | rfl <;> rfl
      · rw [List.mem_singleton] at he; subst he; simp at hc; rcases hc with rfl | rfl <;> rfl
  · obtain rfl : k = Q.length := by omega
    rw [List.take_length] at hblk
    have q5 : H2 nx = some ⟨.c 65, 1, [[.ptr nS 8 0 0]]⟩ := by rw [hlow _ (by omega), iLow _ (by omega)]; exact hM5
    have q6 : H2 (nx + 1) = some ⟨.c 31, 2, [[.d (.lit (.int .i64 0)), .d (.lit (.int .i64 0))]]⟩ := by rw [hlow _ (by omega), iLow _ (by omega)]; exact hM6
    have qS : H2 nS = some (stB A s) := by rw [hlow _ (by omega), iLow _ (by omega)]; exact hSM
    have qO : OwnS H2 lo A s := hM1.low fun x hx => by have := n1 x hx; rw [hlow _ (by omega), iLow _ (by omega)]
    have qsub : ∀ i y, H i = some y → H2 i = some y := fun i y hy => by have := fresh_lt hfr hy; rw [hlow i (by omega), iLow _ (by omega)]; exact hsub i y hy
    have d1 : ¬ nx + 1 = nx2 := by omega
    have d2 : ¬ nS = nx2 := by omega
    have d3 : ¬ q = nx2 := by omega
    simp [q5]
    refine ICall.ownA 100 8 (es := [hpO nS, .agg [.d (eI 2), .d (eI 0), .own q 2 Q.length, .own nx2 8 0]]) ⟨⟨.inl rfl, trivial⟩, ⟨.inl rfl, .inl rfl, .inl rfl, .inr ⟨rfl, _, rfl⟩, trivial⟩, trivial⟩ ?_
    have hlen : (Q.map fun n => (⟨4, n⟩ : GVal)).length = Q.length := by simp
    have hmk := fun (K' : D → Hp → Nat → Prop) => make_ic (K := K') (H := H2.set nx2 (some ⟨.c 100, 8, []⟩)) (lo := lo) (nx := nx2 + 1) (nS := nS) (A := A) (s := s) hq ⟨2, 0, Q.map fun n => ⟨4, n⟩, []⟩ q nx2 [] rfl (by rw [Hp.set_ne _ _ d3, hblk, List.append_nil]) (Hp.set_same _ _ _) d3 (fun x hx => by have := n1 x hx; omega) (by omega) (by omega) (HSol.set hsol (by simp)) (qO.set_low _ fun x hx => by have := n1 x hx; omega) (by rw [Hp.set_ne _ _ d2]; exact qS) hSn (by omega)
    simp only [hlen] at hmk
    refine hmk _ (fun hb nx3 hn3 => ?_) (fun hb H3 nx3 A3 hn3 low3 high3 sol3 O3 S3 lv3 => ?_)
    · unfold makeW at hK
      rw [if_pos hb] at hK
      simp [q6, d1]
      exact ⟨HSol.set (HSol.set hsol (by simp)) (by simp), H, fun i y hy => by have := fresh_lt hfr hy; rw [Hp.set_ne _ _ (by omega), Hp.set_ne _ _ (by omega)]; exact qsub i y hy, hK.bad (by simp) _ (by omega)⟩
    · unfold makeW at hK
      rw [if_neg hb] at hK
      have r6 : H3 (nx + 1) = some ⟨.c 31, 2, [[.d (.lit (.int .i64 0)), .d (.lit (.int .i64 0))]]⟩ := by rw [low3 _ (by omega) (fun x hx => by have := n1 x hx; omega) (by omega), Hp.set_ne _ _ d1]; exact q6
      simp [r6]
      have hA : ∀ x, Live (s.addC ⟨2, 0, Q.map fun n => ⟨4, n⟩, []⟩) x → A3 x ≠ nx + 1 := fun x hx => by
        rcases lv3 x hx with ⟨y, hy, e⟩ | e | e | e
        · have := n1 y hy; omega
        · omega
        · omega
        · omega
      refine ⟨HSol.set sol3 (by simp), _, fun _ _ h => h, hK.ok rfl _ nx3 A3 (by omega) (fun p h1 h2 h3 => ?_) (fun p hp => ?_) (HSol.set sol3 (by simp)) (O3.set_low _ hA) ?_ fun x hx => ?_⟩
      · rw [Hp.set_ne _ _ (by omega), low3 p (by omega) h2 h3, Hp.set_ne _ _ (by omega), hlow p (by omega), iLow p (by omega), hM2 p h1]
      · rw [Hp.set_ne _ _ (by omega)]; exact high3 p hp
      · rw [Hp.set_ne _ _ (by omega)]; exact S3
      · rcases lv3 x hx with h | e | e | e
        · exact .inl h
        · exact .inr (by omega)
        · exact .inr (by omega)
        · exact .inr (by omega)
theorem heapCallK_ic {H : Hp} {lo nx nS : Nat} {A : Ad → Nat} {s : GState} (hq : cellsQ wordsT s = 0) (hin : ∀ x ∈ s.shapes, InS x) (S : Bool) (call : Int) (hcall : call = 3) (args : List GVal) (hf : ∀ v ∈ args, fitsB s v = true) (hSol : HSol H) (hO : OwnS H lo A s) (hS : H nS = some (stB A s)) (hSn : ∀ x, Live s x → A x ≠ nS) (hlo : lo ≤ nx) {K : D → Hp → Nat → Prop} (hK : CallK H nx lo nS A s (callW s call args) K) :
    ICall Tryz.prog 25 [hpO nS, dI call, dL S (args.map eVal)] H nx K := by
  refine ICall.fresh (by kernel_rfl) fun hfr => ICall.cut ?_
  have n1 : ∀ x, Live s x → A x < nx := fun x hx => hO.lt hfr hx
  have pS := fresh_lt hfr hS
  refine fni_ok [0,1,2,3,6,7,8,9,10,11,12,18,22,29,30,31,32,42,45,46,55,66,74,84,99,104,116,123,130] [(9, [0,0,0,6,0,31,63], (.seg 0 (.seg 1 (.seg 2 (.seg 3 (.seg 4 (.eff 5 [] (.seg 6 .last)))))))), (14, [0,0,2,6,15,31,31,127,255], (.seg 0 (.seg 1 (.seg 2 (.seg 3 (.eff 4 [] (.seg 5 (.seg 6 (.eff 7 [] (.seg 8 .last)))))))))), (16, [0,0,0,4,12,30,63,127,127,511,1023], (.seg 0 (.seg 1 (.seg 2 (.seg 3 (.seg 4 (.eff 5 [0] (.eff 6 [] (.seg 7 (.seg 8 (.eff 9 [] (.seg 10 .last)))))))))))), (18, [0,0,2,6,15,31,63,127], (.seg 0 (.seg 1 (.seg 2 (.seg 3 (.eff 4 [] (.seg 5 (.eff 6 [] (.seg 7 .last))))))))), (27, [0,0,2,6,15,31,63,127,255,511,1023,2047], (.seg 0 (.seg 1 (.seg 2 (.seg 3 (.eff 4 [] (.seg 5 (.seg 6 (.seg 7 (.seg 8 (.eff 9 [] (.eff 10 [] (.seg 11 .last)))))))))))))] Tryz.func25 rfl (by kernel_rfl) rfl rfl rfl rfl (by kernel_rfl) ?_
  simp [Nat.add_assoc]
  have hM1 : OwnS ((H.set nx (some ⟨.c 65, 1, [[.ptr nS 8 0 0]]⟩)).set (nx + 1) (some ⟨.c 31, 2, [[.d (.lit (.int .i64 0)), .d (.lit (.int .i64 0))]]⟩)) lo A s := (hO.set_low _ fun x hx => by have := n1 x hx; omega).set_low _ fun x hx => by have := n1 x hx; omega
  have hM2 : ∀ i, i < nx → ((H.set nx (some ⟨.c 65, 1, [[.ptr nS 8 0 0]]⟩)).set (nx + 1) (some ⟨.c 31, 2, [[.d (.lit (.int .i64 0)), .d (.lit (.int .i64 0))]]⟩)) i = H i := fun i hi => by rw [Hp.set_ne _ _ (by omega), Hp.set_ne _ _ (by omega)]
  have hM3 : HSol ((H.set nx (some ⟨.c 65, 1, [[.ptr nS 8 0 0]]⟩)).set (nx + 1) (some ⟨.c 31, 2, [[.d (.lit (.int .i64 0)), .d (.lit (.int .i64 0))]]⟩)) := HSol.set (HSol.set hSol (by simp)) (by simp)
  have hM5 : ((H.set nx (some ⟨.c 65, 1, [[.ptr nS 8 0 0]]⟩)).set (nx + 1) (some ⟨.c 31, 2, [[.d (.lit (.int .i64 0)), .d (.lit (.int .i64 0))]]⟩)) nx = some ⟨.c 65, 1, [[.ptr nS 8 0 0]]⟩ := by simp
  have hM6 : ((H.set nx (some ⟨.c 65, 1, [[.ptr nS 8 0 0]]⟩)).set (nx + 1) (some ⟨.c 31, 2, [[.d (.lit (.int .i64 0)), .d (.lit (.int .i64 0))]]⟩)) (nx + 1) = some ⟨.c 31, 2, [[.d (.lit (.int .i64 0)), .d (.lit (.int .i64 0))]]⟩ := by simp
  generalize ((H.set nx (some ⟨.c 65, 1, [[.ptr nS 8 0 0]]⟩)).set (nx + 1) (some ⟨.c 31, 2, [[.d (.lit (.int .i64 0)), .d (.lit (.int .i64 0))]]⟩)) = M at *
  have hsub : ∀ i y, H i = some y → M i = some y := fun i y hy => by rw [hM2 i (fresh_lt hfr hy)]; exact hy
  have hsub1 : ∀ (B : Blk) i y, H i = some y → (M.set (nx + 1) (some B)) i = some y := fun B i y hy => by rw [Hp.set_ne _ _ (by have := fresh_lt hfr hy; omega)]; exact hsub i y hy
  by_cases hc : call < 0 ∨ 16 ≤ call
  · have e : callW s call args = (s, nilG, 0) := by unfold callW; rw [if_pos hc]
    rw [e] at hK
    refine cform_no call hc ?_
    simp [hM6]
    exact ⟨HSol.set hM3 (by simp), H, hsub1 _, hK.bad (by simp) _ (by omega)⟩
  obtain ⟨c, rfl⟩ : ∃ c : Nat, call = c := ⟨call.toNat, by omega⟩
  have hc16 : c < 16 := by omega
  refine cform_ok c hc16 ?_
  have hf3 : (formB c).length ≤ 3 := by
    have : c = 0 ∨ c = 1 ∨ c = 2 ∨ c = 3 ∨ c = 4 ∨ c = 5 ∨ c = 6 ∨ c = 7 ∨ c = 8 ∨ c = 9 ∨ c = 10 ∨ c = 11 ∨ c = 12 ∨ c = 13 ∨ c = 14 ∨ c = 15 := by omega
    rcases this with rfl | rfl | rfl | rfl | rfl | rfl | rfl | rfl | rfl | rfl | rfl | rfl | rfl | rfl | rfl | rfl <;> decide
  have hsz : (⟨(formB c).toArray⟩ : ByteArray).size = (formB c).length := by simp [ByteArray.size]
  by_cases hl : args.length = (formB c).length
  case neg =>
    have e : callW s c args = (s, nilG, 7) := by unfold callW; rw [if_neg hc, if_pos (by simpa using hl)]
    rw [e] at hK
    have hl' : ¬ (args.length : Int) = ((formB c).length : Int) := by omega
    simp [hM6, hl, hl', hsz]
    intros
    exact ⟨HSol.set hM3 (by simp), H, hsub1 _, hK.bad (by simp) _ (by omega)⟩
  obtain ⟨f, hfm⟩ : ∃ f, f = formB c := ⟨_, rfl⟩
  rw [← hfm] at hl hf3 hsz ⊢
  simp [hl, hsz]
  intro _
  refine loopH_ok (ks := [0,1,2,3,6,7,8,9,10,11,12,18,22,29,30,31,32,42,45,46,55,66,74,84,99,104,116,123,130]) (pl := [(9, [0,0,0,6,0,31,63], (.seg 0 (.seg 1 (.seg 2 (.seg 3 (.seg 4 (.eff 5 [] (.seg 6 .last)))))))), (14, [0,0,2,6,15,31,31,127,255], (.seg 0 (.seg 1 (.seg 2 (.seg 3 (.eff 4 [] (.seg 5 (.seg 6 (.eff 7 [] (.seg 8 .last)))))))))), (16, [0,0,0,4,12,30,63,127,127,511,1023], (.seg 0 (.seg 1 (.seg 2 (.seg 3 (.seg 4 (.eff 5 [0] (.eff 6 [] (.seg 7 (.seg 8 (.eff 9 [] (.seg 10 .last)))))))))))), (18, [0,0,2,6,15,31,63,127], (.seg 0 (.seg 1 (.seg 2 (.seg 3 (.eff 4 [] (.seg 5 (.eff 6 [] (.seg 7 .last))))))))), (27, [0,0,2,6,15,31,63,127,255,511,1023,2047], (.seg 0 (.seg 1 (.seg 2 (.seg 3 (.eff 4 [] (.seg 5 (.seg 6 (.seg 7 (.seg 8 (.eff 9 [] (.eff 10 [] (.seg 11 .last)))))))))))))]) (n0 := 140) (α := {x : HcS // HcI M (nx + 2) s args f x}) (fun x => [(31, dI x.1.k)]) (fun _ x => x.1.H) (fun x => x.1.nx) (fun x => args.length - x.1.k) ⟨⟨0, M, nx + 2⟩, ⟨Nat.zero_le _, Nat.le_refl _, fun _ _ => rfl, hM3, fun i h => absurd h (Nat.not_lt_zero _)⟩⟩ rfl (by kernel_rfl) (Wk.sub (by simp)) ?_
  rintro ⟨⟨k, H2, nx2⟩, hI⟩
  obtain ⟨hk, hn, hlow, hsol, hall⟩ := hI
  simp only at hk hn hlow hsol hall
  have q5 : H2 nx = some ⟨.c 65, 1, [[.ptr nS 8 0 0]]⟩ := by rw [hlow nx (by omega)]; exact hM5
  have q6 : H2 (nx + 1) = some ⟨.c 31, 2, [[.d (.lit (.int .i64 0)), .d (.lit (.int .i64 0))]]⟩ := by rw [hlow (nx + 1) (by omega)]; exact hM6
  have qS : H2 nS = some (stB A s) := by rw [hlow nS (by omega), hM2 nS pS]; exact hS
  have qO : OwnS H2 lo A s := hM1.low fun x hx => hlow _ (by have := n1 x hx; omega)
  have qsub : ∀ i y, H i = some y → H2 i = some y := fun i y hy => by rw [hlow i (by have := fresh_lt hfr hy; omega)]; exact hsub i y hy
  have qsub1 : ∀ (B : Blk) i y, H i = some y → (H2.set (nx + 1) (some B)) i = some y := fun B i y hy => by rw [Hp.set_ne _ _ (by have := fresh_lt hfr hy; omega)]; exact qsub i y hy
  by_cases h1 : k < f.length
  · have h1' : (k : Int) < (f.length : Int) := by omega
    have h2 : k < args.length := by omega
    have d1 : ¬ nx = nx2 := by omega
    have d2 : ¬ nx + 1 = nx2 := by omega
    have d3 : ¬ nS = nx2 := by omega
    simp [h1, h1', h2, q5, d1, d2]
    have solV : HSol (H2.set nx2 (some ⟨.c 31, 2, [[.d (eI args[k].kind), .d (eI args[k].n)]]⟩)) := hsol.set (by simp)
    have oV : OwnS (H2.set nx2 (some ⟨.c 31, 2, [[.d (eI args[k].kind), .d (eI args[k].n)]]⟩)) lo A s := qO.set_low _ fun x hx => by have := n1 x hx; omega
    have sV : (H2.set nx2 (some ⟨.c 31, 2, [[.d (eI args[k].kind), .d (eI args[k].n)]]⟩)) nS = some (stB A s) := by rw [Hp.set_ne _ _ d3]; exact qS
    refine ICall.lendL (es := [hpD true s, .one (.d (.lit (.int .u8 f[k].toNat))), aD (eVal args[k])]) ⟨heap_shw oV sV, ⟨_, rfl, .d rfl⟩, val_shw _, trivial⟩ (heapFits_ok s f[k] args[k] ⟨by simp, ?_⟩)
    have ea : argB s (f.getD k 0) (valAt args k) = argB s f[k] args[k] := by simp [valAt, List.getD_eq_getElem?_getD, h1, h2]
    cases hb : argB s f[k] args[k] with
    | false =>
      have e : callW s c args = (s, nilG, 0) := by
        unfold callW
        rw [if_neg hc, Int.toNat_natCast, ← hfm, if_neg (by omega), if_pos ?_]
        rw [Bool.eq_false_iff]
        intro h
        have := (argsB_all hl).1 h k h2
        rw [ea, hb] at this
        cases this
      rw [e] at hK
      simp [q6, d2]
      exact ⟨HSol.set solV (by simp), H, fun i y hy => by rw [Hp.set_ne _ _ (by have := fresh_lt hfr hy; omega), Hp.set_ne _ _ (by have := fresh_lt hfr hy; omega)]; exact qsub i y hy, hK.bad (by simp) _ (by omega)⟩
    | true =>
      simp
      exact ⟨⟨k + 1, H2.set nx2 (some ⟨.c 31, 2, [[.d (eI args[k].kind), .d (eI args[k].n)]]⟩), nx2 + 1⟩, by simp only; omega, ⟨by simp only; omega, by simp only; omega, fun i hi => by simp only; rw [Hp.set_ne _ _ (by omega)]; exact hlow i hi, solV, fun i hi => by
        simp only at hi
        by_cases hik : i = k
        · subst hik; rw [ea]; exact hb
        · exact hall i (by omega)⟩, Wk.sub (by simp [wrap_add (show k < 9223372036854775807 by omega)])⟩
  have hk1 : k = args.length := by omega
  have hab : argsB s f args = true := (argsB_all hl).2 fun i hi => hall i (by omega)
  have e : callW s c args = callR s c args := by rw [hfm] at hl hab; exact callW_at hc16 hl hab
  rw [e] at hK
  have h1' : ¬ (k : Int) < (f.length : Int) := by omega
  have fin : ∀ (H3 : Hp) (nx3 : Nat) (A3 : Ad → Nat) (B : Blk), newRs B.es → nx2 ≤ nx3 → (∀ q, q < nx2 → (∀ x, Live s x → q ≠ A x) → q ≠ nS → H3 q = H2 q) → (∀ q, nx3 ≤ q → H3 q = none) → HSol H3 → OwnS H3 lo A3 (callR s c args).1 → H3 nS = some (stB A3 (callR s c args).1) → (∀ x, Live (callR s c args).1 x → (∃ y, Live s y ∧ A3 x = A y) ∨ nx2 ≤ A3 x) → (callR s c args).2.2 = -1 →
      HSol (H3.set (nx + 1) (some B)) ∧ cutK K (.tup [aD (eVal (callR s c args).2.1), dI (-1)]) (H3.set (nx + 1) (some B)) nx3 := by
    intro H3 nx3 A3 B hB g1 g2 g3 g4 g5 g6 g7 g8
    have hA : ∀ x, Live (callR s c args).1 x → A3 x ≠ nx + 1 := fun x hx => by
      rcases g7 x hx with ⟨y, hy, e⟩ | e
      · have := n1 y hy; omega
      · omega
    have g9 : HSol (H3.set (nx + 1) (some B)) := HSol.set g4 hB.sol
    refine ⟨g9, _, fun _ _ h => h, hK.ok g8 _ nx3 A3 (by omega) (fun q h1 h2 h3 => ?_) (fun q hq => ?_) g9 (g5.set_low _ hA) ?_ fun x hx => ?_⟩
    · rw [Hp.set_ne _ _ (by omega), g2 q (by omega) h2 h3, hlow q (by omega), hM2 q h1]
    · rw [Hp.set_ne _ _ (by omega)]; exact g3 q hq
    · rw [Hp.set_ne _ _ (by omega)]; exact g6
    · rcases g7 x hx with h | h
      · exact .inl h
      · exact .inr (by omega)
  obtain rfl : c = 3 := by omega
  obtain ⟨a, rfl⟩ : ∃ a, args = [a] := List.length_eq_one_iff.1 (by rw [hl, hfm]; rfl)
  subst hfm
  simp only [callR, valAt, List.getD_cons_zero] at hK fin
  simp only [formB, List.length_cons, List.length_nil] at *
  obtain rfl : k = 1 := by omega
  have ha : namesB s a 1 = true := by
    simp [argsB, formB] at hab
    exact argB_o ▸ hab
  simp [q5]
  refine keys_ic hq hin S a ha hsol qO qS hSn (by omega) ⟨fun he nx3 hn3 => ?_, fun he H3 nx3 A3 hn3 low3 high3 sol3 O3 S3 lv3 => ?_⟩
  · simp [q6]
    exact ⟨HSol.set hsol (by simp), H, qsub1 _, hK.bad he _ (by omega)⟩
  · have r6 : H3 (nx + 1) = some ⟨.c 31, 2, [[.d (.lit (.int .i64 0)), .d (.lit (.int .i64 0))]]⟩ := by rw [low3 _ (by omega) (fun x hx => by have := n1 x hx; omega) (by omega)]; exact q6
    simp [r6]
    exact fin H3 nx3 A3 _ (by simp [newRs]) hn3 low3 high3 sol3 O3 S3 lv3 he
theorem hcK : HcOk 3 := fun hq hw S args hf hSol hO hS hSn hlo _ hK => heapCallK_ic hq hw.ok.2.1 S 3 rfl args hf hSol hO hS hSn hlo hK
structure KkI (M : Hp) (n0 m : Nat) (x : HcS) : Prop where
  k : x.k ≤ m
  le : n0 ≤ x.nx
  low : ∀ i, i < n0 → x.H i = M i
  sol : HSol x.H
end Go.Proofs.YtbphdcffpobcbaaGreatDoor
