/- Several texts in one. -/
import Derived.Test.YtbphdcffpobcbaaGreatDoorMe
import Derived.Test.YtbphdcffpobcbaaGreatDoorMka
import Derived.Test.YtbphdcffpobcbaaGreatDoorMkb
import Derived.Test.YtbphdcffpobcbaaGreatDoorMkj
set_option linter.unusedSimpArgs false
set_option linter.unusedVariables false
set_option maxRecDepth 100000
set_option maxHeartbeats 16000000
namespace Go.Proofs.YtbphdcffpobcbaaGreatDoor
open Go.RowKit Go
def trOf (x : Nat) : Nat := match Ieee.double.read x with
  | .nan _ _ => x
  | d => Ieee.double.write (d.integral .zero)
def quietF (x : Nat) : Prop := ∀ s t, Ieee.double.read x = .nan s t → Ieee.double.quiet t = t
theorem m2 (A : Nat → Sem Value) (B : Array Value → Sem Value) (x : Nat) : Extern.MathFloor.toIntegral.match_2 (motive := fun _ => Sem Value) #[.float .f64 x] A B = A x := rfl
theorem archTrunc_run (x : Nat) (hq : quietF x) (w : World) : (callFunc 133 #[.float .f64 x]).run Tryz.prog w = .ok (.value (.float .f64 (trOf x))) w := by
  rw [run_callFunc_extern (e := Extern.MathFloor.toIntegral "math.archTrunc" .zero) Tryz.func133 (by kernel_rfl) (by kernel_rfl) (by kernel_rfl) (by kernel_rfl)]
  have e : FloatKind.f64.decode x = Ieee.double.read x := rfl
  unfold trOf
  delta Extern.MathFloor.toIntegral
  rw [m2, e]
  cases h : Ieee.double.read x with
  | nan s t =>
    have := hq s t h
    dsimp only
    rw [if_pos (show FloatKind.f64.format.quiet t = t from this)]
    rfl
  | infinity s => rfl
  | number s m i => rfl
theorem trunc_calls (x : Nat) (hq : quietF x) (w : World) : Calls Tryz.prog 76 #[.float .f64 x] w fun e w' => e = .returned (.float .f64 (trOf x)) ∧ Below w.heap.size w w' := by
  have h := archTrunc_run x hq
  go_enter Tryz.func76, Tryz.ntmps76
  go_wp2_with fail
  refine bodyPost_ret (v := .float .f64 (trOf x)) (by simp [results, Tryz.results76, go_sem, *] <;> rfl) rfl ?_
  exact ⟨rfl, Below.refl _ _⟩
theorem trunc_ok (x : Nat) (hq : quietF x) {K : D → List Blk → Prop} (h : K (dF (trOf x)) []) : DPure Tryz.prog 76 [dF x] K :=
  DPure.ofGl [.float .f64 x] rfl (by kernel_rfl) (.float .f64 (trOf x)) _ (fun _ _ _ => by rw [RV]; exact .lit rfl) (fun F w hgl => trunc_calls x hq w) h
theorem atEnd_ic {H : Hp} {lo nx nS : Nat} {A : Ad → Nat} {s : GState} (hq : cellsQ wordsT s = 0) (S : Bool) (a v : GVal) (ha : a.kind = 5) (hra : RefOk s a) (hSol : HSol H) (hO : OwnS H lo A s) (hS : H nS = some (stB A s)) (hSn : ∀ x, Live s x → A x ≠ nS) (hlo : lo ≤ nx) {K : D → Hp → Nat → Prop} (hK : CallK H nx lo nS A s (atEndW s a v) K) :
    ICall Tryz.prog 82 [hpO nS, dI 14, dL S [eVal a, eVal v]] H nx K := by
  refine ICall.fresh (by kernel_rfl) fun hfr => ICall.cut ?_
  have n1 : ∀ x, Live s x → A x < nx := fun x hx => hO.lt hfr hx
  have pS := fresh_lt hfr hS
  obtain ⟨a0, a1⟩ := hra ha
  obtain ⟨n, hnl, rfl⟩ : ∃ (n : Nat) (_ : n < s.cells.length), a = ⟨5, n⟩ := ⟨a.n.toNat, by omega, by cases a; simp at ha a0 ⊢; exact ⟨ha, by omega⟩⟩
  refine fni_ok [0,1,2,3,6,7,8,9,10,11,13,14,15,21,22,29,49,57,78,89,90,91,92,107,115,143,156,159,161] [(1, [0,0,2,6,15,31], (.seg 0 (.seg 1 (.seg 2 (.seg 3 (.eff 4 [] (.seg 5 .last))))))), (6, [0,0,2,6,14,0,32,96,224,510,1023,2047,4095], (.seg 0 (.seg 1 (.seg 2 (.seg 3 (.seg 4 (.seg 5 (.seg 6 (.seg 7 (.eff 8 [2, 3, 4] (.eff 9 [] (.seg 10 (.seg 11 (.eff 12 [] .last)))))))))))))), (17, [0,1,3,7,15,0,32,96,224,511,1023,0], (.seg 0 (.seg 1 (.seg 2 (.seg 3 (.seg 4 (.seg 5 (.seg 6 (.seg 7 (.seg 8 (.seg 11 (.eff 9 [] (.seg 10 .last))))))))))))), (26, [0,1,0,4,12,28,60,0,128,384,896,0,2048,6144,16256,32640,65532,131071,262143,524287], (.seg 0 (.seg 2 (.seg 3 (.seg 4 (.seg 5 (.seg 6 (.seg 7 (.seg 8 (.seg 9 (.seg 10 (.seg 11 (.seg 12 (.seg 13 (.seg 14 (.fork 1 [2, 3, 4, 5, 6, 8, 9, 10, 12, 13, 14] (.eff 15 [2, 3, 4, 5, 6] (.eff 16 [] (.seg 17 (.seg 18 (.eff 19 [] .last))))) (.eff 15 [0, 2, 3, 4, 5, 6] (.fork 1 [2, 3, 4, 5, 6] (.eff 16 [] (.seg 17 (.seg 18 (.eff 19 [] .last)))) (.eff 16 [0] (.eff 1 [] (.seg 17 (.seg 18 (.eff 19 [] .last))))))))))))))))))))))), (32, [0,1,3,7,0,31,63,0,128,384,1023], (.seg 0 (.seg 1 (.seg 2 (.seg 3 (.seg 4 (.seg 5 (.seg 6 (.seg 7 (.seg 8 (.seg 9 (.seg 10 .last)))))))))))), (38, [0,0,0,0,8,24,0,64,192,511], (.seg 0 (.seg 1 (.seg 2 (.seg 3 (.seg 4 (.seg 5 (.seg 6 (.seg 7 (.seg 8 (.eff 9 [] .last)))))))))))] Tryz.func82 rfl (by kernel_rfl) rfl rfl rfl rfl (by kernel_rfl) ?_
  simp [Nat.add_assoc]
  have hM1 : OwnS ((H.set nx (some ⟨.c 65, 1, [[.ptr nS 8 0 0]]⟩)).set (nx + 1) (some ⟨.c 31, 2, [[.d (.lit (.int .i64 0)), .d (.lit (.int .i64 0))]]⟩)) lo A s := (hO.set_low _ fun x hx => by have := n1 x hx; omega).set_low _ fun x hx => by have := n1 x hx; omega
  have hM2 : ∀ i, i < nx → ((H.set nx (some ⟨.c 65, 1, [[.ptr nS 8 0 0]]⟩)).set (nx + 1) (some ⟨.c 31, 2, [[.d (.lit (.int .i64 0)), .d (.lit (.int .i64 0))]]⟩)) i = H i := fun i hi => by rw [Hp.set_ne _ _ (by omega), Hp.set_ne _ _ (by omega)]
  have hM3 : HSol ((H.set nx (some ⟨.c 65, 1, [[.ptr nS 8 0 0]]⟩)).set (nx + 1) (some ⟨.c 31, 2, [[.d (.lit (.int .i64 0)), .d (.lit (.int .i64 0))]]⟩)) := HSol.set (HSol.set hSol (by simp)) (by simp)
  have hM4 : ∀ i, nx + 2 ≤ i → ((H.set nx (some ⟨.c 65, 1, [[.ptr nS 8 0 0]]⟩)).set (nx + 1) (some ⟨.c 31, 2, [[.d (.lit (.int .i64 0)), .d (.lit (.int .i64 0))]]⟩)) i = none := fun i hi => by rw [Hp.set_ne _ _ (by omega), Hp.set_ne _ _ (by omega)]; exact hfr i (by omega)
  have hM5 : ((H.set nx (some ⟨.c 65, 1, [[.ptr nS 8 0 0]]⟩)).set (nx + 1) (some ⟨.c 31, 2, [[.d (.lit (.int .i64 0)), .d (.lit (.int .i64 0))]]⟩)) nx = some ⟨.c 65, 1, [[.ptr nS 8 0 0]]⟩ := by simp
  have hM6 : ((H.set nx (some ⟨.c 65, 1, [[.ptr nS 8 0 0]]⟩)).set (nx + 1) (some ⟨.c 31, 2, [[.d (.lit (.int .i64 0)), .d (.lit (.int .i64 0))]]⟩)) (nx + 1) = some ⟨.c 31, 2, [[.d (.lit (.int .i64 0)), .d (.lit (.int .i64 0))]]⟩ := by simp
  generalize ((H.set nx (some ⟨.c 65, 1, [[.ptr nS 8 0 0]]⟩)).set (nx + 1) (some ⟨.c 31, 2, [[.d (.lit (.int .i64 0)), .d (.lit (.int .i64 0))]]⟩)) = M at *
  have hSM : M nS = some (stB A s) := by rw [hM2 nS pS]; exact hS
  have hsub : ∀ i y, H i = some y → M i = some y := fun i y hy => by rw [hM2 i (fresh_lt hfr hy)]; exact hy
  have hr : RefOk s ⟨5, n⟩ := fun _ => ⟨Int.natCast_nonneg n, by simpa using hnl⟩
  refine heapOfO_ic hM3 hM1 hSM ⟨5, n⟩ hr (fun _ nx1 hn1 => ?_) (fun h => absurd rfl h)
  rw [show (⟨5, (n : Int)⟩ : GVal).n.toNat = n from Int.toNat_natCast n]
  obtain ⟨R, r1, r2, r3⟩ := hM1.ce
  obtain ⟨r4, r5⟩ := List.getElem?_eq_some_iff.1 (r3 n hnl)
  rw [oCe, ceR] at r5
  have m1 := n1 .c trivial
  have m2 := n1 (.cv n) hnl
  have hc1 := hSn .c trivial
  have hc2 := hSn (.cv n) hnl
  have eB : ∀ c', stB A (s.setC n c') = stB A s := fun c' => by simp [stB, oRow, GState.setC]
  have hSM' := hSM
  rw [stB, oRow] at hSM'
  have hvl := (cell_vals hq hnl).2.2
  have b1 : ¬ A .c = nx1 := by omega
  have b2 : ¬ A .c = nx1 + 1 := by omega
  have b3 : ¬ A .c = nx + 1 := by omega
  have b4 : ¬ A (.cv n) = nx1 := by omega
  have b5 : ¬ A (.cv n) = nx1 + 1 := by omega
  have b6 : ¬ A (.cv n) = nx + 1 := by omega
  have b7 : ¬ nx + 1 = nx1 := by omega
  have b8 : ¬ nx + 1 = nx1 + 1 := by omega
  have b9 : ¬ nx + 1 = A .c := by omega
  have b10 : ¬ nx + 1 = A (.cv n) := by omega
  have b11 : ¬ A .c = A (.cv n) := hM1.ne (x := .c) (y := .cv n) trivial hnl (by simp)
  have b12 : ¬ A (.cv n) = A .c := fun e => b11 e.symm
  have b13 : ¬ nx1 + 1 = A .c := by omega
  have b14 : ¬ nx1 + 1 = nx + 1 := by omega
  have b15 : ¬ nx1 = A .c := by omega
  have b16 : ¬ nx1 = nx + 1 := by omega
  have b17 : ¬ nS = nx1 := by omega
  have b18 : ¬ nS = nx1 + 1 := by omega
  have b19 : ¬ nS = nx + 1 := by omega
  have b20 : ¬ nS = A .c := fun e => hc1 e.symm
  have b21 : ¬ nS = A (.cv n) := fun e => hc2 e.symm
  have b22 : ¬ nx = nx1 := by omega
  have b23 : ¬ nx = A .c := by omega
  have b24 : ¬ nx = nx + 1 := by omega
  obtain ⟨zs, z1⟩ := hM1.en
  rw [endBlk] at z1
  have m3 := n1 .en trivial
  have hc3 := hSn .en trivial
  have e1 : ¬ A .en = nx1 := by omega
  have e2 : ¬ A .en = nx1 + 1 := by omega
  have e3 : ¬ A .en = nx + 1 := by omega
  have e4 : ¬ nS = A .en := fun e => hc3 e.symm
  have e5 : ¬ A .en = nS := hc3
  have e6 : ¬ nx1 = A .en := by omega
  have e7 : ¬ nx1 + 1 = A .en := by omega
  have e8 : ¬ nx1 = nS := by omega
  have e9 : ¬ nx1 + 1 = nS := by omega
  have e10 : ¬ nx = nS := by omega
  have e11 : ¬ nx = A .en := by omega
  have e12 : ¬ nx = nx1 + 1 := by omega
  have e13 : ¬ nx + 1 = nS := by omega
  have e14 : ¬ nx + 1 = A .en := by omega
  unfold atEndW at hK
  by_cases c1 : 100 ≤ s.ends.length
  · rw [if_pos c1] at hK
    have c1' : (100 : Int) ≤ (s.ends.length : Int) := by omega
    simp [hM5, hSM', c1, c1', hM6]
    intro _
    exact ⟨HSol.set hM3 (by simp), H, fun i y hy => by rw [Hp.set_ne _ _ (by have := fresh_lt hfr hy; omega)]; exact hsub i y hy, hK.bad (by simp) _ (by omega)⟩
  rw [if_neg c1] at hK
  have c1' : ¬ (100 : Int) ≤ (s.ends.length : Int) := by omega
  have fin : ∀ Hf : Hp, HSol Hf → (∀ p, p < nx → p ≠ A .en → p ≠ nS → Hf p = M p) → (∀ p, nx1 + 2 ≤ p → Hf p = none) → Hf (nx1 + 1) = some (endBlk (s.ends ++ [⟨n, v⟩])) →
      Hf nS = some ⟨.c 29, 8, [[.own (A .c) 4 s.cells.length, .own (A .sh) 2 s.shapes.length, .own (A .tx) 1 s.texts.length, .own (A .t) 5 s.threads.length, .own (nx1 + 1) 3 (s.ends.length + 1), .own (A .sa) 2 s.said.length, .d (eI s.asked), .d (eI s.steps)]]⟩ → cutK K (.tup [aD (eVal nilG), dI (-1)]) Hf (nx1 + 2) := by
    intro Hf solf lowf highf f1 f2
    have O2 := hM1.withEn (H' := Hf) (nx1 + 1) (s.ends ++ [⟨n, v⟩]) [] (by rw [List.append_nil]; exact f1) (fun x hx he => ⟨lowf _ (n1 x hx) (hM1.ne hx (y := .en) trivial he) (hSn x hx), by have := n1 x hx; omega⟩) (by omega)
    refine ⟨Hf, fun _ _ h => h, hK.ok rfl Hf (nx1 + 2) _ (by omega) (fun q h1 h2 h3 => (lowf q h1 (h2 .en trivial) h3).trans (hM2 q h1)) highf solf O2 ?_ fun x hx => ?_⟩
    · rw [f2]; simp [stB, oRow, atEn, GState.withEn]
    · by_cases e : x = .en
      · subst e; exact .inr (show nx ≤ nx1 + 1 by omega)
      · rw [atEn_ne e]; exact .inl ⟨x, by cases x <;> exact hx, rfl⟩
  simp [Nat.add_assoc, hM5, hSM', c1, c1', hM6, z1, b7, b8, b14, b16, b17, b18, b19, b22, b24, e1, e2, e3, e4, e5, e6, e7, e8, e9, e10, e11, e12, e13, e14]
  refine fun _ => ⟨fun m b hm hb => ?_, .inl (by omega), and_ofP ?_ fun hs => fin _ hs (fun p h1 h2 h3 => ?_) (fun p h1 => ?_) ?_ ?_⟩
  · subst hm
    rw [if_neg e1, z1] at hb
    simp only [Option.some.injEq] at hb
    subst hb
    exact ⟨rfl, rfl⟩
  · refine HSol.set (HSol.set (HSol.set (hsolN (HSol.set hM3 (by simp))) ?_) (by simp)) (by simp)
    intro e he d hd
    rcases List.mem_append.1 he with he | he
    · obtain ⟨u, -, rfl⟩ := List.mem_map.1 he
      simp at hd; rcases hd with rfl | rfl | rfl <;> rfl
    · rw [List.mem_singleton] at he; subst he; simp at hd; rcases hd with rfl | rfl | rfl <;> rfl
  · repeat rw [Hp.set_ne _ _ (by first | assumption | omega)]
  · repeat rw [Hp.set_ne _ _ (by first | assumption | omega)]
    exact hM4 p (by omega)
  · repeat (first | rw [Hp.set_same] | rw [Hp.set_ne _ _ (by first | assumption | omega)])
    simp [endBlk]
  · repeat (first | rw [Hp.set_same] | rw [Hp.set_ne _ _ (by first | assumption | omega)])
theorem heapCallE_ic {H : Hp} {lo nx nS : Nat} {A : Ad → Nat} {s : GState} (hq : cellsQ wordsT s = 0) (S : Bool) (call : Int) (hcall : call = 14) (args : List GVal) (hf : ∀ v ∈ args, fitsB s v = true) (hSol : HSol H) (hO : OwnS H lo A s) (hS : H nS = some (stB A s)) (hSn : ∀ x, Live s x → A x ≠ nS) (hlo : lo ≤ nx) {K : D → Hp → Nat → Prop} (hK : CallK H nx lo nS A s (callW s call args) K) :
    ICall Tryz.prog 25 [hpO nS, dI call, dL S (args.map eVal)] H nx K := by
  refine ICall.fresh (by kernel_rfl) fun hfr => ICall.cut ?_
  have n1 : ∀ x, Live s x → A x < nx := fun x hx => hO.lt hfr hx
  have pS := fresh_lt hfr hS
  refine fni_ok [0,1,2,3,6,7,8,9,10,11,12,18,22,29,30,31,32,42,45,46,55,66,74,84,99,104,116,123,130] [(9, [0,0,0,6,0,31,63], (.seg 0 (.seg 1 (.seg 2 (.seg 3 (.seg 4 (.eff 5 [] (.seg 6 .last)))))))), (14, [0,0,2,6,15,31,31,127,255], (.seg 0 (.seg 1 (.seg 2 (.seg 3 (.eff 4 [] (.seg 5 (.seg 6 (.eff 7 [] (.seg 8 .last)))))))))), (16, [0,0,0,4,12,30,63,127,127,511,1023], (.seg 0 (.seg 1 (.seg 2 (.seg 3 (.seg 4 (.eff 5 [0] (.eff 6 [] (.seg 7 (.seg 8 (.eff 9 [] (.seg 10 .last)))))))))))), (18, [0,0,2,6,15,31,63,127], (.seg 0 (.seg 1 (.seg 2 (.seg 3 (.eff 4 [] (.seg 5 (.eff 6 [] (.seg 7 .last))))))))), (27, [0,0,2,6,15,31,63,127,255,511,1023,2047], (.seg 0 (.seg 1 (.seg 2 (.seg 3 (.eff 4 [] (.seg 5 (.seg 6 (.seg 7 (.seg 8 (.eff 9 [] (.eff 10 [] (.seg 11 .last)))))))))))))] Tryz.func25 rfl (by kernel_rfl) rfl rfl rfl rfl (by kernel_rfl) ?_
  simp [Nat.add_assoc]
  have hM1 : OwnS ((H.set nx (some ⟨.c 65, 1, [[.ptr nS 8 0 0]]⟩)).set (nx + 1) (some ⟨.c 31, 2, [[.d (.lit (.int .i64 0)), .d (.lit (.int .i64 0))]]⟩)) lo A s := (hO.set_low _ fun x hx => by have := n1 x hx; omega).set_low _ fun x hx => by have := n1 x hx; omega
  have hM2 : ∀ i, i < nx → ((H.set nx (some ⟨.c 65, 1, [[.ptr nS 8 0 0]]⟩)).set (nx + 1) (some ⟨.c 31, 2, [[.d (.lit (.int .i64 0)), .d (.lit (.int .i64 0))]]⟩)) i = H i := fun i hi => by rw [Hp.set_ne _ _ (by omega), Hp.set_ne _ _ (by omega)]
  have hM3 : HSol ((H.set nx (some ⟨.c 65, 1, [[.ptr nS 8 0 0]]⟩)).set (nx + 1) (some ⟨.c 31, 2, [[.d (.lit (.int .i64 0)), .d (.lit (.int .i64 0))]]⟩)) := HSol.set (HSol.set hSol (by simp)) (by simp)
  have hM5 : ((H.set nx (some ⟨.c 65, 1, [[.ptr nS 8 0 0]]⟩)).set (nx + 1) (some ⟨.c 31, 2, [[.d (.lit (.int .i64 0)), .d (.lit (.int .i64 0))]]⟩)) nx = some ⟨.c 65, 1, [[.ptr nS 8 0 0]]⟩ := by simp
  have hM6 : ((H.set nx (some ⟨.c 65, 1, [[.ptr nS 8 0 0]]⟩)).set (nx + 1) (some ⟨.c 31, 2, [[.d (.lit (.int .i64 0)), .d (.lit (.int .i64 0))]]⟩)) (nx + 1) = some ⟨.c 31, 2, [[.d (.lit (.int .i64 0)), .d (.lit (.int .i64 0))]]⟩ := by simp
  generalize ((H.set nx (some ⟨.c 65, 1, [[.ptr nS 8 0 0]]⟩)).set (nx + 1) (some ⟨.c 31, 2, [[.d (.lit (.int .i64 0)), .d (.lit (.int .i64 0))]]⟩)) = M at *
  have hsub : ∀ i y, H i = some y → M i = some y := fun i y hy => by rw [hM2 i (fresh_lt hfr hy)]; exact hy
  have hsub1 : ∀ (B : Blk) i y, H i = some y → (M.set (nx + 1) (some B)) i = some y := fun B i y hy => by rw [Hp.set_ne _ _ (by have := fresh_lt hfr hy; omega)]; exact hsub i y hy
  by_cases hc : call < 0 ∨ 16 ≤ call
  · have e : callW s call args = (s, nilG, 0) := by unfold callW; rw [if_pos hc]
    rw [e] at hK
    refine cform_no call hc ?_
    simp [hM6]
    exact ⟨HSol.set hM3 (by simp), H, hsub1 _, hK.bad (by simp) _ (by omega)⟩
  obtain ⟨c, rfl⟩ : ∃ c : Nat, call = c := ⟨call.toNat, by omega⟩
  have hc16 : c < 16 := by omega
  refine cform_ok c hc16 ?_
  have hf3 : (formB c).length ≤ 3 := by
    have : c = 0 ∨ c = 1 ∨ c = 2 ∨ c = 3 ∨ c = 4 ∨ c = 5 ∨ c = 6 ∨ c = 7 ∨ c = 8 ∨ c = 9 ∨ c = 10 ∨ c = 11 ∨ c = 12 ∨ c = 13 ∨ c = 14 ∨ c = 15 := by omega
    rcases this with rfl | rfl | rfl | rfl | rfl | rfl | rfl | rfl | rfl | rfl | rfl | rfl | rfl | rfl | rfl | rfl <;> decide
  have hsz : (⟨(formB c).toArray⟩ : ByteArray).size = (formB c).length := by simp [ByteArray.size]
  by_cases hl : args.length = (formB c).length
  case neg =>
    have e : callW s c args = (s, nilG, 7) := by unfold callW; rw [if_neg hc, if_pos (by simpa using hl)]
    rw [e] at hK
    have hl' : ¬ (args.length : Int) = ((formB c).length : Int) := by omega
    simp [hM6, hl, hl', hsz]
    intros
    exact ⟨HSol.set hM3 (by simp), H, hsub1 _, hK.bad (by simp) _ (by omega)⟩
  obtain ⟨f, hfm⟩ : ∃ f, f = formB c := ⟨_, rfl⟩
  rw [← hfm] at hl hf3 hsz ⊢
  simp [hl, hsz]
  intro _
  refine loopH_ok (ks := [0,1,2,3,6,7,8,9,10,11,12,18,22,29,30,31,32,42,45,46,55,66,74,84,99,104,116,123,130]) (pl := [(9, [0,0,0,6,0,31,63], (.seg 0 (.seg 1 (.seg 2 (.seg 3 (.seg 4 (.eff 5 [] (.seg 6 .last)))))))), (14, [0,0,2,6,15,31,31,127,255], (.seg 0 (.seg 1 (.seg 2 (.seg 3 (.eff 4 [] (.seg 5 (.seg 6 (.eff 7 [] (.seg 8 .last)))))))))), (16, [0,0,0,4,12,30,63,127,127,511,1023], (.seg 0 (.seg 1 (.seg 2 (.seg 3 (.seg 4 (.eff 5 [0] (.eff 6 [] (.seg 7 (.seg 8 (.eff 9 [] (.seg 10 .last)))))))))))), (18, [0,0,2,6,15,31,63,127], (.seg 0 (.seg 1 (.seg 2 (.seg 3 (.eff 4 [] (.seg 5 (.eff 6 [] (.seg 7 .last))))))))), (27, [0,0,2,6,15,31,63,127,255,511,1023,2047], (.seg 0 (.seg 1 (.seg 2 (.seg 3 (.eff 4 [] (.seg 5 (.seg 6 (.seg 7 (.seg 8 (.eff 9 [] (.eff 10 [] (.seg 11 .last)))))))))))))]) (n0 := 140) (α := {x : HcS // HcI M (nx + 2) s args f x}) (fun x => [(31, dI x.1.k)]) (fun _ x => x.1.H) (fun x => x.1.nx) (fun x => args.length - x.1.k) ⟨⟨0, M, nx + 2⟩, ⟨Nat.zero_le _, Nat.le_refl _, fun _ _ => rfl, hM3, fun i h => absurd h (Nat.not_lt_zero _)⟩⟩ rfl (by kernel_rfl) (Wk.sub (by simp)) ?_
  rintro ⟨⟨k, H2, nx2⟩, hI⟩
  obtain ⟨hk, hn, hlow, hsol, hall⟩ := hI
  simp only at hk hn hlow hsol hall
  have q5 : H2 nx = some ⟨.c 65, 1, [[.ptr nS 8 0 0]]⟩ := by rw [hlow nx (by omega)]; exact hM5
  have q6 : H2 (nx + 1) = some ⟨.c 31, 2, [[.d (.lit (.int .i64 0)), .d (.lit (.int .i64 0))]]⟩ := by rw [hlow (nx + 1) (by omega)]; exact hM6
  have qS : H2 nS = some (stB A s) := by rw [hlow nS (by omega), hM2 nS pS]; exact hS
  have qO : OwnS H2 lo A s := hM1.low fun x hx => hlow _ (by have := n1 x hx; omega)
  have qsub : ∀ i y, H i = some y → H2 i = some y := fun i y hy => by rw [hlow i (by have := fresh_lt hfr hy; omega)]; exact hsub i y hy
  have qsub1 : ∀ (B : Blk) i y, H i = some y → (H2.set (nx + 1) (some B)) i = some y := fun B i y hy => by rw [Hp.set_ne _ _ (by have := fresh_lt hfr hy; omega)]; exact qsub i y hy
  by_cases h1 : k < f.length
  · have h1' : (k : Int) < (f.length : Int) := by omega
    have h2 : k < args.length := by omega
    have d1 : ¬ nx = nx2 := by omega
    have d2 : ¬ nx + 1 = nx2 := by omega
    have d3 : ¬ nS = nx2 := by omega
    simp [h1, h1', h2, q5, d1, d2]
    have solV : HSol (H2.set nx2 (some ⟨.c 31, 2, [[.d (eI args[k].kind), .d (eI args[k].n)]]⟩)) := hsol.set (by simp)
    have oV : OwnS (H2.set nx2 (some ⟨.c 31, 2, [[.d (eI args[k].kind), .d (eI args[k].n)]]⟩)) lo A s := qO.set_low _ fun x hx => by have := n1 x hx; omega
    have sV : (H2.set nx2 (some ⟨.c 31, 2, [[.d (eI args[k].kind), .d (eI args[k].n)]]⟩)) nS = some (stB A s) := by rw [Hp.set_ne _ _ d3]; exact qS
    refine ICall.lendL (es := [hpD true s, .one (.d (.lit (.int .u8 f[k].toNat))), aD (eVal args[k])]) ⟨heap_shw oV sV, ⟨_, rfl, .d rfl⟩, val_shw _, trivial⟩ (heapFits_ok s f[k] args[k] ⟨by simp, ?_⟩)
    have ea : argB s (f.getD k 0) (valAt args k) = argB s f[k] args[k] := by simp [valAt, List.getD_eq_getElem?_getD, h1, h2]
    cases hb : argB s f[k] args[k] with
    | false =>
      have e : callW s c args = (s, nilG, 0) := by
        unfold callW
        rw [if_neg hc, Int.toNat_natCast, ← hfm, if_neg (by omega), if_pos ?_]
        rw [Bool.eq_false_iff]
        intro h
        have := (argsB_all hl).1 h k h2
        rw [ea, hb] at this
        cases this
      rw [e] at hK
      simp [q6, d2]
      exact ⟨HSol.set solV (by simp), H, fun i y hy => by rw [Hp.set_ne _ _ (by have := fresh_lt hfr hy; omega), Hp.set_ne _ _ (by have := fresh_lt hfr hy; omega)]; exact qsub i y hy, hK.bad (by simp) _ (by omega)⟩
    | true =>
      simp
      exact ⟨⟨k + 1, H2.set nx2 (some ⟨.c 31, 2, [[.d (eI args[k].kind), .d (eI args[k].n)]]⟩), nx2 + 1⟩, by simp only; omega, ⟨by simp only; omega, by simp only; omega, fun i hi => by simp only; rw [Hp.set_ne _ _ (by omega)]; exact hlow i hi, solV, fun i hi => by
        simp only at hi
        by_cases hik : i = k
        · subst hik; rw [ea]; exact hb
        · exact hall i (by omega)⟩, Wk.sub (by simp [wrap_add (show k < 9223372036854775807 by omega)])⟩
  have hk1 : k = args.length := by omega
  have hab : argsB s f args = true := (argsB_all hl).2 fun i hi => hall i (by omega)
  have e : callW s c args = callR s c args := by rw [hfm] at hl hab; exact callW_at hc16 hl hab
  rw [e] at hK
  have h1' : ¬ (k : Int) < (f.length : Int) := by omega
  have fin : ∀ (H3 : Hp) (nx3 : Nat) (A3 : Ad → Nat) (B : Blk), newRs B.es → nx2 ≤ nx3 → (∀ q, q < nx2 → (∀ x, Live s x → q ≠ A x) → q ≠ nS → H3 q = H2 q) → (∀ q, nx3 ≤ q → H3 q = none) → HSol H3 → OwnS H3 lo A3 (callR s c args).1 → H3 nS = some (stB A3 (callR s c args).1) → (∀ x, Live (callR s c args).1 x → (∃ y, Live s y ∧ A3 x = A y) ∨ nx2 ≤ A3 x) → (callR s c args).2.2 = -1 →
      HSol (H3.set (nx + 1) (some B)) ∧ cutK K (.tup [aD (eVal (callR s c args).2.1), dI (-1)]) (H3.set (nx + 1) (some B)) nx3 := by
    intro H3 nx3 A3 B hB g1 g2 g3 g4 g5 g6 g7 g8
    have hA : ∀ x, Live (callR s c args).1 x → A3 x ≠ nx + 1 := fun x hx => by
      rcases g7 x hx with ⟨y, hy, e⟩ | e
      · have := n1 y hy; omega
      · omega
    have g9 : HSol (H3.set (nx + 1) (some B)) := HSol.set g4 hB.sol
    refine ⟨g9, _, fun _ _ h => h, hK.ok g8 _ nx3 A3 (by omega) (fun q h1 h2 h3 => ?_) (fun q hq => ?_) g9 (g5.set_low _ hA) ?_ fun x hx => ?_⟩
    · rw [Hp.set_ne _ _ (by omega), g2 q (by omega) h2 h3, hlow q (by omega), hM2 q h1]
    · rw [Hp.set_ne _ _ (by omega)]; exact g3 q hq
    · rw [Hp.set_ne _ _ (by omega)]; exact g6
    · rcases g7 x hx with h | h
      · exact .inl h
      · exact .inr (by omega)
  obtain rfl : c = 14 := by omega
  obtain ⟨a, v, rfl⟩ : ∃ a v, args = [a, v] := len_two (by rw [hl, hfm]; rfl)
  subst hfm
  simp only [callR, valAt, List.getD_cons_zero, List.getD_cons_succ] at hK fin
  simp only [formB, List.length_cons, List.length_nil] at *
  obtain rfl : k = 2 := by omega
  have ha : a.kind = 5 := by
    simp [argsB, formB] at hab
    have := hab.1
    rw [argB_r, decide_eq_true_eq] at this
    exact this
  simp [q5]
  refine atEnd_ic hq S a v ha (fits_ref (hf a (by simp))) hsol qO qS hSn (by omega) ⟨fun he nx3 hn3 => ?_, fun he H3 nx3 A3 hn3 low3 high3 sol3 O3 S3 lv3 => ?_⟩
  · simp [q6]
    exact ⟨HSol.set hsol (by simp), H, qsub1 _, hK.bad he _ (by omega)⟩
  · have r6 : H3 (nx + 1) = some ⟨.c 31, 2, [[.d (.lit (.int .i64 0)), .d (.lit (.int .i64 0))]]⟩ := by rw [low3 _ (by omega) (fun x hx => by have := n1 x hx; omega) (by omega)]; exact q6
    simp [r6]
    exact fin H3 nx3 A3 _ (by simp [newRs]) hn3 low3 high3 sol3 O3 S3 lv3 he
theorem hcE : HcOk 14 := fun hq _ S args hf hSol hO hS hSn hlo _ hK => heapCallE_ic hq S 14 rfl args hf hSol hO hS hSn hlo hK
theorem quiet_of {n : Int} (h : rightB 3 n = true) : quietF (flt n) := by
  intro s t hr
  simp [rightB] at h
  rcases h with h | rfl
  · unfold same at h
    have := Flt.order_nan (y := flt n) hr
    have h2 : (Ieee.double.order (flt n) (flt n) == some .eq) = true := h
    rw [this] at h2
    cases h2
  · have e1 : Ieee.double.read (flt theNaN) = .nan false 2251799813685249 := by decide +kernel
    have e2 : Ieee.double.quiet 2251799813685249 = 2251799813685249 := by decide +kernel
    rw [e1] at hr
    injection hr with h1 h2
    rw [← h2]; exact e2
def inF (x : Nat) : Bool := (Ieee.double.order x Flt.minW == some .gt || Ieee.double.order x Flt.minW == some .eq) && (Ieee.double.order x Flt.maxW == some .lt || Ieee.double.order x Flt.maxW == some .eq)
theorem trc_spec (n : Int) : inF (trOf (flt n)) = (trcW n).isSome ∧ ∀ N, trcW n = some N → (Ieee.double.read (trOf (flt n))).toInt .zero = some N ∧ -2147483648 ≤ N ∧ N ≤ 2147483647 := by
  unfold trcW trOf
  have e : (IntKind.u64.wrap n).toNat = flt n := rfl
  rw [e]
  cases h : Ieee.double.read (flt n) with
  | nan s t =>
    simp only
    refine ⟨?_, fun N hN => by cases hN⟩
    unfold inF
    rw [Flt.order_nan h, Flt.order_nan h]
    rfl
  | infinity s =>
    simp only
    refine ⟨?_, fun N hN => by cases hN⟩
    have := Flt.order_inf s
    rw [← Flt.code_inf s] at this
    exact this
  | number s m i =>
    simp only
    have hc := Flt.code_number s m i _ rfl
    by_cases hi : Flt.inW (Flt.sv s (Flt.whole m i)) = true
    · rw [if_pos hi]
      refine ⟨by rw [hi] at hc; exact hc, fun N hN => ?_⟩
      simp only [Option.some.injEq] at hN
      subst hN
      refine ⟨Flt.code_int s m i hi, ?_⟩
      simpa [Flt.inW] using hi
    · rw [if_neg hi]
      refine ⟨?_, fun N hN => by cases hN⟩
      rw [Bool.not_eq_true] at hi
      rw [hi] at hc
      exact hc
theorem heapCallF_ic {H : Hp} {lo nx nS : Nat} {A : Ad → Nat} {s : GState} (hq : cellsQ wordsT s = 0) (S : Bool) (call : Int) (hcall : call = 6 ∨ call = 7) (args : List GVal) (hf : ∀ v ∈ args, fitsB s v = true) (hSol : HSol H) (hO : OwnS H lo A s) (hS : H nS = some (stB A s)) (hSn : ∀ x, Live s x → A x ≠ nS) (hlo : lo ≤ nx) {K : D → Hp → Nat → Prop} (hK : CallK H nx lo nS A s (callW s call args) K) :
    ICall Tryz.prog 25 [hpO nS, dI call, dL S (args.map eVal)] H nx K := by
  refine ICall.fresh (by kernel_rfl) fun hfr => ICall.cut ?_
  have n1 : ∀ x, Live s x → A x < nx := fun x hx => hO.lt hfr hx
  have pS := fresh_lt hfr hS
  refine fni_ok [0,1,2,3,6,7,8,9,10,11,12,18,22,29,30,31,32,42,45,46,55,66,74,84,99,104,116,123,130] [(9, [0,0,0,6,0,31,63], (.seg 0 (.seg 1 (.seg 2 (.seg 3 (.seg 4 (.eff 5 [] (.seg 6 .last)))))))), (14, [0,0,2,6,15,31,31,127,255], (.seg 0 (.seg 1 (.seg 2 (.seg 3 (.eff 4 [] (.seg 5 (.seg 6 (.eff 7 [] (.seg 8 .last)))))))))), (16, [0,0,0,4,12,30,63,127,127,511,1023], (.seg 0 (.seg 1 (.seg 2 (.seg 3 (.seg 4 (.eff 5 [0] (.eff 6 [] (.seg 7 (.seg 8 (.eff 9 [] (.seg 10 .last)))))))))))), (18, [0,0,2,6,15,31,63,127], (.seg 0 (.seg 1 (.seg 2 (.seg 3 (.eff 4 [] (.seg 5 (.eff 6 [] (.seg 7 .last))))))))), (27, [0,0,2,6,15,31,63,127,255,511,1023,2047], (.seg 0 (.seg 1 (.seg 2 (.seg 3 (.eff 4 [] (.seg 5 (.seg 6 (.seg 7 (.seg 8 (.eff 9 [] (.eff 10 [] (.seg 11 .last)))))))))))))] Tryz.func25 rfl (by kernel_rfl) rfl rfl rfl rfl (by kernel_rfl) ?_
  simp [Nat.add_assoc]
  have hM1 : OwnS ((H.set nx (some ⟨.c 65, 1, [[.ptr nS 8 0 0]]⟩)).set (nx + 1) (some ⟨.c 31, 2, [[.d (.lit (.int .i64 0)), .d (.lit (.int .i64 0))]]⟩)) lo A s := (hO.set_low _ fun x hx => by have := n1 x hx; omega).set_low _ fun x hx => by have := n1 x hx; omega
  have hM2 : ∀ i, i < nx → ((H.set nx (some ⟨.c 65, 1, [[.ptr nS 8 0 0]]⟩)).set (nx + 1) (some ⟨.c 31, 2, [[.d (.lit (.int .i64 0)), .d (.lit (.int .i64 0))]]⟩)) i = H i := fun i hi => by rw [Hp.set_ne _ _ (by omega), Hp.set_ne _ _ (by omega)]
  have hM3 : HSol ((H.set nx (some ⟨.c 65, 1, [[.ptr nS 8 0 0]]⟩)).set (nx + 1) (some ⟨.c 31, 2, [[.d (.lit (.int .i64 0)), .d (.lit (.int .i64 0))]]⟩)) := HSol.set (HSol.set hSol (by simp)) (by simp)
  have hM5 : ((H.set nx (some ⟨.c 65, 1, [[.ptr nS 8 0 0]]⟩)).set (nx + 1) (some ⟨.c 31, 2, [[.d (.lit (.int .i64 0)), .d (.lit (.int .i64 0))]]⟩)) nx = some ⟨.c 65, 1, [[.ptr nS 8 0 0]]⟩ := by simp
  have hM6 : ((H.set nx (some ⟨.c 65, 1, [[.ptr nS 8 0 0]]⟩)).set (nx + 1) (some ⟨.c 31, 2, [[.d (.lit (.int .i64 0)), .d (.lit (.int .i64 0))]]⟩)) (nx + 1) = some ⟨.c 31, 2, [[.d (.lit (.int .i64 0)), .d (.lit (.int .i64 0))]]⟩ := by simp
  generalize ((H.set nx (some ⟨.c 65, 1, [[.ptr nS 8 0 0]]⟩)).set (nx + 1) (some ⟨.c 31, 2, [[.d (.lit (.int .i64 0)), .d (.lit (.int .i64 0))]]⟩)) = M at *
  have hsub : ∀ i y, H i = some y → M i = some y := fun i y hy => by rw [hM2 i (fresh_lt hfr hy)]; exact hy
  have hsub1 : ∀ (B : Blk) i y, H i = some y → (M.set (nx + 1) (some B)) i = some y := fun B i y hy => by rw [Hp.set_ne _ _ (by have := fresh_lt hfr hy; omega)]; exact hsub i y hy
  by_cases hc : call < 0 ∨ 16 ≤ call
  · have e : callW s call args = (s, nilG, 0) := by unfold callW; rw [if_pos hc]
    rw [e] at hK
    refine cform_no call hc ?_
    simp [hM6]
    exact ⟨HSol.set hM3 (by simp), H, hsub1 _, hK.bad (by simp) _ (by omega)⟩
  obtain ⟨c, rfl⟩ : ∃ c : Nat, call = c := ⟨call.toNat, by omega⟩
  have hc16 : c < 16 := by omega
  refine cform_ok c hc16 ?_
  have hf3 : (formB c).length ≤ 3 := by
    have : c = 0 ∨ c = 1 ∨ c = 2 ∨ c = 3 ∨ c = 4 ∨ c = 5 ∨ c = 6 ∨ c = 7 ∨ c = 8 ∨ c = 9 ∨ c = 10 ∨ c = 11 ∨ c = 12 ∨ c = 13 ∨ c = 14 ∨ c = 15 := by omega
    rcases this with rfl | rfl | rfl | rfl | rfl | rfl | rfl | rfl | rfl | rfl | rfl | rfl | rfl | rfl | rfl | rfl <;> decide
  have hsz : (⟨(formB c).toArray⟩ : ByteArray).size = (formB c).length := by simp [ByteArray.size]
  by_cases hl : args.length = (formB c).length
  case neg =>
    have e : callW s c args = (s, nilG, 7) := by unfold callW; rw [if_neg hc, if_pos (by simpa using hl)]
    rw [e] at hK
    have hl' : ¬ (args.length : Int) = ((formB c).length : Int) := by omega
    simp [hM6, hl, hl', hsz]
    intros
    exact ⟨HSol.set hM3 (by simp), H, hsub1 _, hK.bad (by simp) _ (by omega)⟩
  obtain ⟨f, hfm⟩ : ∃ f, f = formB c := ⟨_, rfl⟩
  rw [← hfm] at hl hf3 hsz ⊢
  simp [hl, hsz]
  intro _
  refine loopH_ok (ks := [0,1,2,3,6,7,8,9,10,11,12,18,22,29,30,31,32,42,45,46,55,66,74,84,99,104,116,123,130]) (pl := [(9, [0,0,0,6,0,31,63], (.seg 0 (.seg 1 (.seg 2 (.seg 3 (.seg 4 (.eff 5 [] (.seg 6 .last)))))))), (14, [0,0,2,6,15,31,31,127,255], (.seg 0 (.seg 1 (.seg 2 (.seg 3 (.eff 4 [] (.seg 5 (.seg 6 (.eff 7 [] (.seg 8 .last)))))))))), (16, [0,0,0,4,12,30,63,127,127,511,1023], (.seg 0 (.seg 1 (.seg 2 (.seg 3 (.seg 4 (.eff 5 [0] (.eff 6 [] (.seg 7 (.seg 8 (.eff 9 [] (.seg 10 .last)))))))))))), (18, [0,0,2,6,15,31,63,127], (.seg 0 (.seg 1 (.seg 2 (.seg 3 (.eff 4 [] (.seg 5 (.eff 6 [] (.seg 7 .last))))))))), (27, [0,0,2,6,15,31,63,127,255,511,1023,2047], (.seg 0 (.seg 1 (.seg 2 (.seg 3 (.eff 4 [] (.seg 5 (.seg 6 (.seg 7 (.seg 8 (.eff 9 [] (.eff 10 [] (.seg 11 .last)))))))))))))]) (n0 := 140) (α := {x : HcS // HcI M (nx + 2) s args f x}) (fun x => [(31, dI x.1.k)]) (fun _ x => x.1.H) (fun x => x.1.nx) (fun x => args.length - x.1.k) ⟨⟨0, M, nx + 2⟩, ⟨Nat.zero_le _, Nat.le_refl _, fun _ _ => rfl, hM3, fun i h => absurd h (Nat.not_lt_zero _)⟩⟩ rfl (by kernel_rfl) (Wk.sub (by simp)) ?_
  rintro ⟨⟨k, H2, nx2⟩, hI⟩
  obtain ⟨hk, hn, hlow, hsol, hall⟩ := hI
  simp only at hk hn hlow hsol hall
  have q5 : H2 nx = some ⟨.c 65, 1, [[.ptr nS 8 0 0]]⟩ := by rw [hlow nx (by omega)]; exact hM5
  have q6 : H2 (nx + 1) = some ⟨.c 31, 2, [[.d (.lit (.int .i64 0)), .d (.lit (.int .i64 0))]]⟩ := by rw [hlow (nx + 1) (by omega)]; exact hM6
  have qS : H2 nS = some (stB A s) := by rw [hlow nS (by omega), hM2 nS pS]; exact hS
  have qO : OwnS H2 lo A s := hM1.low fun x hx => hlow _ (by have := n1 x hx; omega)
  have qsub : ∀ i y, H i = some y → H2 i = some y := fun i y hy => by rw [hlow i (by have := fresh_lt hfr hy; omega)]; exact hsub i y hy
  have qsub1 : ∀ (B : Blk) i y, H i = some y → (H2.set (nx + 1) (some B)) i = some y := fun B i y hy => by rw [Hp.set_ne _ _ (by have := fresh_lt hfr hy; omega)]; exact qsub i y hy
  by_cases h1 : k < f.length
  · have h1' : (k : Int) < (f.length : Int) := by omega
    have h2 : k < args.length := by omega
    have d1 : ¬ nx = nx2 := by omega
    have d2 : ¬ nx + 1 = nx2 := by omega
    have d3 : ¬ nS = nx2 := by omega
    simp [h1, h1', h2, q5, d1, d2]
    have solV : HSol (H2.set nx2 (some ⟨.c 31, 2, [[.d (eI args[k].kind), .d (eI args[k].n)]]⟩)) := hsol.set (by simp)
    have oV : OwnS (H2.set nx2 (some ⟨.c 31, 2, [[.d (eI args[k].kind), .d (eI args[k].n)]]⟩)) lo A s := qO.set_low _ fun x hx => by have := n1 x hx; omega
    have sV : (H2.set nx2 (some ⟨.c 31, 2, [[.d (eI args[k].kind), .d (eI args[k].n)]]⟩)) nS = some (stB A s) := by rw [Hp.set_ne _ _ d3]; exact qS
    refine ICall.lendL (es := [hpD true s, .one (.d (.lit (.int .u8 f[k].toNat))), aD (eVal args[k])]) ⟨heap_shw oV sV, ⟨_, rfl, .d rfl⟩, val_shw _, trivial⟩ (heapFits_ok s f[k] args[k] ⟨by simp, ?_⟩)
    have ea : argB s (f.getD k 0) (valAt args k) = argB s f[k] args[k] := by simp [valAt, List.getD_eq_getElem?_getD, h1, h2]
    cases hb : argB s f[k] args[k] with
    | false =>
      have e : callW s c args = (s, nilG, 0) := by
        unfold callW
        rw [if_neg hc, Int.toNat_natCast, ← hfm, if_neg (by omega), if_pos ?_]
        rw [Bool.eq_false_iff]
        intro h
        have := (argsB_all hl).1 h k h2
        rw [ea, hb] at this
        cases this
      rw [e] at hK
      simp [q6, d2]
      exact ⟨HSol.set solV (by simp), H, fun i y hy => by rw [Hp.set_ne _ _ (by have := fresh_lt hfr hy; omega), Hp.set_ne _ _ (by have := fresh_lt hfr hy; omega)]; exact qsub i y hy, hK.bad (by simp) _ (by omega)⟩
    | true =>
      simp
      exact ⟨⟨k + 1, H2.set nx2 (some ⟨.c 31, 2, [[.d (eI args[k].kind), .d (eI args[k].n)]]⟩), nx2 + 1⟩, by simp only; omega, ⟨by simp only; omega, by simp only; omega, fun i hi => by simp only; rw [Hp.set_ne _ _ (by omega)]; exact hlow i hi, solV, fun i hi => by
        simp only at hi
        by_cases hik : i = k
        · subst hik; rw [ea]; exact hb
        · exact hall i (by omega)⟩, Wk.sub (by simp [wrap_add (show k < 9223372036854775807 by omega)])⟩
  have hk1 : k = args.length := by omega
  have hab : argsB s f args = true := (argsB_all hl).2 fun i hi => hall i (by omega)
  have e : callW s c args = callR s c args := by rw [hfm] at hl hab; exact callW_at hc16 hl hab
  rw [e] at hK
  have h1' : ¬ (k : Int) < (f.length : Int) := by omega
  have fin : ∀ (H3 : Hp) (nx3 : Nat) (A3 : Ad → Nat) (B : Blk), newRs B.es → nx2 ≤ nx3 → (∀ q, q < nx2 → (∀ x, Live s x → q ≠ A x) → q ≠ nS → H3 q = H2 q) → (∀ q, nx3 ≤ q → H3 q = none) → HSol H3 → OwnS H3 lo A3 (callR s c args).1 → H3 nS = some (stB A3 (callR s c args).1) → (∀ x, Live (callR s c args).1 x → (∃ y, Live s y ∧ A3 x = A y) ∨ nx2 ≤ A3 x) → (callR s c args).2.2 = -1 →
      HSol (H3.set (nx + 1) (some B)) ∧ cutK K (.tup [aD (eVal (callR s c args).2.1), dI (-1)]) (H3.set (nx + 1) (some B)) nx3 := by
    intro H3 nx3 A3 B hB g1 g2 g3 g4 g5 g6 g7 g8
    have hA : ∀ x, Live (callR s c args).1 x → A3 x ≠ nx + 1 := fun x hx => by
      rcases g7 x hx with ⟨y, hy, e⟩ | e
      · have := n1 y hy; omega
      · omega
    have g9 : HSol (H3.set (nx + 1) (some B)) := HSol.set g4 hB.sol
    refine ⟨g9, _, fun _ _ h => h, hK.ok g8 _ nx3 A3 (by omega) (fun q h1 h2 h3 => ?_) (fun q hq => ?_) g9 (g5.set_low _ hA) ?_ fun x hx => ?_⟩
    · rw [Hp.set_ne _ _ (by omega), g2 q (by omega) h2 h3, hlow q (by omega), hM2 q h1]
    · rw [Hp.set_ne _ _ (by omega)]; exact g3 q hq
    · rw [Hp.set_ne _ _ (by omega)]; exact g6
    · rcases g7 x hx with h | h
      · exact .inl h
      · exact .inr (by omega)
  have hc3 : c = 6 ∨ c = 7 := by omega
  rcases hc3 with rfl | rfl
  · obtain ⟨a, rfl⟩ : ∃ a, args = [a] := List.length_eq_one_iff.1 (by rw [hl, hfm]; rfl)
    subst hfm
    simp only [callR, valAt, List.getD_cons_zero] at hK fin
    simp only [formB, List.length_cons, List.length_nil] at *
    obtain rfl : k = 1 := by omega
    simp [q5, q6]
    exact ⟨HSol.set hsol (by simp), H, qsub1 _, hK.same hfr hSol hO hS _ (by omega)⟩
  · obtain ⟨a, rfl⟩ : ∃ a, args = [a] := List.length_eq_one_iff.1 (by rw [hl, hfm]; rfl)
    subst hfm
    simp only [callR, valAt, List.getD_cons_zero] at hK fin
    simp only [formB, List.length_cons, List.length_nil] at *
    obtain rfl : k = 1 := by omega
    have ha : a.kind = 3 := by
      simp [argsB, formB] at hab
      unfold argB at hab
      simpa using hab
    have hr := hf a (by simp)
    simp only [fitsB, Bool.and_eq_true] at hr
    have hr := hr.1
    rw [ha] at hr
    have hqt := quiet_of hr
    simp [q5]
    refine trunc_ok _ hqt ?_
    obtain ⟨t1, t2⟩ := trc_spec a.n
    generalize trOf (flt a.n) = X at *
    cases htr : trcW a.n with
    | none =>
      rw [htr] at hK t1
      simp only [inF, Flt.minW, Flt.maxW, Option.isSome_none] at t1
      have t1' : ¬ ((Ieee.double.order X 13970166044103278592 = some Ordering.gt ∨ Ieee.double.order X 13970166044103278592 = some Ordering.eq) ∧ (Ieee.double.order X 4746794007244308480 = some Ordering.lt ∨ Ieee.double.order X 4746794007244308480 = some Ordering.eq)) := by
        rw [Bool.eq_false_iff] at t1
        intro h
        exact t1 (by simpa using h)
      have G := hK.bad (by simp) nx2 (by omega)
      simp [q6]
      by_cases p1 : Ieee.double.order X 13970166044103278592 = some Ordering.gt ∨ Ieee.double.order X 13970166044103278592 = some Ordering.eq
      · have p2 : ¬ Ieee.double.order X 4746794007244308480 = some Ordering.lt ∧ ¬ Ieee.double.order X 4746794007244308480 = some Ordering.eq := ⟨fun e => t1' ⟨p1, .inl e⟩, fun e => t1' ⟨p1, .inr e⟩⟩
        rw [if_pos p1, if_pos p2]
        exact ⟨HSol.set hsol (by simp), H, qsub1 _, G⟩
      · rw [if_neg p1]
        exact ⟨HSol.set hsol (by simp), H, qsub1 _, G⟩
    | some N =>
      rw [htr] at hK t1
      obtain ⟨t3, t4, t5⟩ := t2 N htr
      simp only [inF, Flt.minW, Flt.maxW, Option.isSome_some] at t1
      have t1' : (Ieee.double.order X 13970166044103278592 = some Ordering.gt ∨ Ieee.double.order X 13970166044103278592 = some Ordering.eq) ∧ (Ieee.double.order X 4746794007244308480 = some Ordering.lt ∨ Ieee.double.order X 4746794007244308480 = some Ordering.eq) := by simpa using t1
      simp [q6]
      rw [if_pos t1'.1, if_neg (fun e => t1'.2.elim e.1 e.2), show Ieee.Datum.toInt Ieee.Toward.zero (FloatKind.f64.decode X) = some N from t3]
      have hmn : IntKind.i64.min = -9223372036854775808 := by kernel_rfl
      refine ⟨by rw [hmn]; omega, by omega, whole_ok N ?_⟩
      simp [q6]
      exact ⟨HSol.set hsol (by simp), H, qsub1 _, hK.same hfr hSol hO hS _ (by omega)⟩
theorem hcF {call : Int} (h : call = 6 ∨ call = 7) : HcOk call := fun hq _ S args hf hSol hO hS hSn hlo _ hK => heapCallF_ic hq S call h args hf hSol hO hS hSn hlo hK
end Go.Proofs.YtbphdcffpobcbaaGreatDoor
