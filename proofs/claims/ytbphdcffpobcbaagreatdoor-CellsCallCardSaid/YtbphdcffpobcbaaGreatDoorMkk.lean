/- Several texts in one. -/
import Derived.Test.YtbphdcffpobcbaaGreatDoorMke
import Derived.Test.YtbphdcffpobcbaaGreatDoorMkg
import Derived.Test.YtbphdcffpobcbaaGreatDoorMki
import Derived.Test.YtbphdcffpobcbaaGreatDoorMkj
set_option linter.unusedSimpArgs false
set_option linter.unusedVariables false
set_option maxRecDepth 100000
set_option maxHeartbeats 16000000
namespace Go.Proofs.YtbphdcffpobcbaaGreatDoor
open Go.RowKit Go
structure CallOk (s : GState) (args : List GVal) (t : GState) : Prop where
  q : cellsQ wordsT t = 0
  th : t.threads = s.threads
  cs : ∀ c ∈ t.cells, (∀ v ∈ c.vals, (∃ c' ∈ s.cells, v ∈ c'.vals) ∨ v ∈ args ∨ InI v.n) ∧ (c.frames = [] ∨ ∃ c' ∈ s.cells, c.frames = c'.frames)
section
variable {s : GState} {args : List GVal}
theorem CallOk.same (h : cellsQ wordsT s = 0) : CallOk s args s := ⟨h, rfl, fun c hc => ⟨fun v hv => .inl ⟨c, hc, hv⟩, .inr ⟨c, hc, rfl⟩⟩⟩
theorem CallOk.setV {n : Nat} {l : List GVal} (hn : n < s.cells.length) (h : cellsQ wordsT (setV s ⟨5, n⟩ l) = 0) (hl : ∀ v ∈ l, v ∈ s.cells[n].vals ∨ v ∈ args ∨ InI v.n) : CallOk s args (setV s ⟨5, n⟩ l) := by
  refine ⟨h, rfl, fun c hc => ?_⟩
  unfold Go.Proofs.YtbphdcffpobcbaaGreatDoor.setV at hc
  simp only at hc
  rw [at_nat hn, Int.toNat_natCast] at hc
  rcases List.mem_or_eq_of_mem_set hc with hc | rfl
  · exact ⟨fun v hv => .inl ⟨c, hc, hv⟩, .inr ⟨c, hc, rfl⟩⟩
  · refine ⟨fun v hv => ?_, .inr ⟨_, List.getElem_mem hn, rfl⟩⟩
    rcases hl v hv with h | h
    · exact .inl ⟨_, List.getElem_mem hn, h⟩
    · exact .inr h
theorem CallOk.addC {c : GCell} (h : cellsQ wordsT (s.addC c) = 0) (hf : c.frames = []) (hl : ∀ v ∈ c.vals, InI v.n) : CallOk s args (s.addC c) := by
  refine ⟨h, rfl, fun d hd => ?_⟩
  rcases List.mem_append.1 hd with hd | hd
  · exact ⟨fun v hv => .inl ⟨d, hd, hv⟩, .inr ⟨d, hd, rfl⟩⟩
  · rw [List.mem_singleton] at hd
    subst hd
    exact ⟨fun v hv => .inr (.inr (hl v hv)), .inl hf⟩
end
theorem txtz_dt (l : List ByteArray) : List.map ((fun e => List.map C.dt e) ∘ fun x : ByteArray => [C.d (eS x)]) l = l.map fun x => [eS x] := by
  refine List.map_congr_left fun x _ => ?_
  simp
theorem intern_ic {H : Hp} {lo nx nS : Nat} {A : Ad → Nat} {s : GState} (hq : cellsQ wordsT s = 0) (t : ByteArray) (hSol : HSol H) (hO : OwnS H lo A s) (hS : H nS = some (stB A s)) (hSn : ∀ x, Live s x → A x ≠ nS) (hlo : lo ≤ nx) {K : D → Hp → Nat → Prop} (hK : CallK H nx lo nS A s (internW s t) K) :
    ICall Tryz.prog 73 [hpO nS, dS t] H nx K := by
  refine ICall.fresh (by kernel_rfl) fun hfr => ICall.cut ?_
  have n1 : ∀ x, Live s x → A x < nx := fun x hx => hO.lt hfr hx
  have pS := fresh_lt hfr hS
  obtain ⟨zs, z1⟩ := hO.tx
  rw [txtBlk] at z1
  have hS' := hS
  rw [stB, oRow] at hS'
  have m1 := n1 .tx trivial
  have hc1 := hSn .tx trivial
  have b1 : ¬ nS = nx := by omega
  have b2 : ¬ nS = nx + 1 := by omega
  have b3 : ¬ nS = nx + 2 := by omega
  have b4 : ¬ nS = nx + 3 := by omega
  have b5 : ¬ A .tx = nx := by omega
  have b6 : ¬ A .tx = nx + 1 := by omega
  have b7 : ¬ A .tx = nx + 2 := by omega
  have b8 : ¬ A .tx = nx + 3 := by omega
  have b9 : ¬ nS = A .tx := fun e => hc1 e.symm
  have b10 : ¬ nx = A .tx := by omega
  have b11 : ¬ nx + 1 = A .tx := by omega
  have b12 : ¬ nx + 2 = A .tx := by omega
  have b13 : ¬ nx + 3 = A .tx := by omega
  have b14 : ¬ nx = nS := by omega
  have b15 : ¬ nx + 1 = nS := by omega
  have b16 : ¬ nx + 2 = nS := by omega
  have b17 : ¬ nx + 3 = nS := by omega
  refine fni_ok [0,1,2,4,5,6,15,27] [(6, [0,1,0,4,12,28,60,0,128,508,1023,2047,4095], (.seg 0 (.seg 2 (.seg 3 (.seg 4 (.seg 5 (.seg 6 (.seg 7 (.fork 1 [2, 3, 4, 5, 6] (.eff 8 [2, 3, 4, 5, 6] (.eff 9 [] (.seg 10 (.seg 11 (.eff 12 [] .last))))) (.eff 8 [0, 2, 3, 4, 5, 6] (.fork 1 [2, 3, 4, 5, 6] (.eff 9 [] (.seg 10 (.seg 11 (.eff 12 [] .last)))) (.eff 9 [0] (.eff 1 [] (.seg 10 (.seg 11 (.eff 12 [] .last))))))))))))))))] Tryz.func73 rfl (by kernel_rfl) rfl rfl rfl rfl (by kernel_rfl) ?_
  simp [Nat.add_assoc, hS', z1, b1, b2, b3, b4, b5, b6, b7, b8, b9, b10, b11, b12, b13, b14, b15, b16, b17]
  rw [txtz_dt]
  refine indexS_ok false s.texts t ?_
  unfold internW at hK
  by_cases c1 : 0 ≤ idxQ s.texts t
  · rw [if_pos c1] at hK
    have c1' : ¬ idxQ s.texts t < 0 := by omega
    simp [c1']
    exact ⟨HSol.set (HSol.set hSol (by simp)) (by simp), H, fun i y hy => by have := fresh_lt hfr hy; rw [Hp.set_ne _ _ (by omega), Hp.set_ne _ _ (by omega)]; exact hy, hK.same hfr hSol hO hS _ (by omega)⟩
  rw [if_neg c1] at hK
  have c1' : idxQ s.texts t < 0 := by omega
  by_cases c2 : 300 ≤ s.texts.length
  · rw [if_pos (.inl c2)] at hK
    have c2' : (300 : Int) ≤ (s.texts.length : Int) := by omega
    simp [c1', c2, c2', hS', z1, b1, b2, b3, b4, b5, b6, b7, b8, b9, b10, b11, b12, b13, b14, b15, b16, b17]
    intro _
    exact ⟨HSol.set (HSol.set hSol (by simp)) (by simp), H, fun i y hy => by have := fresh_lt hfr hy; rw [Hp.set_ne _ _ (by omega), Hp.set_ne _ _ (by omega)]; exact hy, hK.bad (by simp) _ (by omega)⟩
  have c2' : ¬ (300 : Int) ≤ (s.texts.length : Int) := by omega
  by_cases c3 : 200 < t.size
  · rw [if_pos (.inr c3)] at hK
    have c3' : (200 : Int) < (t.size : Int) := by omega
    simp [c1', c2, c2', c3, c3', hS', z1, b1, b2, b3, b4, b5, b6, b7, b8, b9, b10, b11, b12, b13, b14, b15, b16, b17]
    intro _
    exact ⟨HSol.set (HSol.set hSol (by simp)) (by simp), H, fun i y hy => by have := fresh_lt hfr hy; rw [Hp.set_ne _ _ (by omega), Hp.set_ne _ _ (by omega)]; exact hy, hK.bad (by simp) _ (by omega)⟩
  rw [if_neg (by omega)] at hK
  have c3' : ¬ (200 : Int) < (t.size : Int) := by omega
  have htl : s.texts.length ≤ 300 := by omega
  have fin : ∀ Hf : Hp, HSol Hf → (∀ p, p < nx → p ≠ A .tx → p ≠ nS → Hf p = H p) → (∀ p, nx + 4 ≤ p → Hf p = none) → Hf (nx + 3) = some (txtBlk (s.texts ++ [t])) →
      Hf nS = some ⟨.c 29, 8, [[.own (A .c) 4 s.cells.length, .own (A .sh) 2 s.shapes.length, .own (nx + 3) 1 (s.texts.length + 1), .own (A .t) 5 s.threads.length, .own (A .en) 3 s.ends.length, .own (A .sa) 2 s.said.length, .d (eI s.asked), .d (eI s.steps)]]⟩ → cutK K (.tup [aD (eVal ⟨4, s.texts.length⟩), dI (-1)]) Hf (nx + 4) := by
    intro Hf solf lowf highf f1 f2
    have O2 := hO.withTx (H' := Hf) (nx + 3) (s.texts ++ [t]) [] (by rw [List.append_nil]; exact f1) (fun x hx he => ⟨lowf _ (n1 x hx) (hO.ne hx (y := .tx) trivial he) (hSn x hx), by have := n1 x hx; omega⟩) (by omega)
    refine ⟨Hf, fun _ _ h => h, hK.ok rfl Hf (nx + 4) _ (by omega) (fun q h1 h2 h3 => lowf q h1 (h2 .tx trivial) h3) highf solf O2 ?_ fun x hx => ?_⟩
    · rw [f2]; simp [stB, oRow, atTx, GState.withTx]
    · by_cases e : x = .tx
      · subst e; exact .inr (show nx ≤ nx + 3 by omega)
      · rw [atTx_ne e]; exact .inl ⟨x, by cases x <;> exact hx, rfl⟩
  simp [Nat.add_assoc, c1', c2, c2', c3, c3', hS', z1, b1, b2, b3, b4, b5, b6, b7, b8, b9, b10, b11, b12, b13, b14, b15, b16, b17]
  refine fun _ => ⟨fun m b hm hb => ?_, .inl (by omega), and_ofP ?_ fun hs => fin _ hs (fun p h1 h2 h3 => ?_) (fun p h1 => ?_) ?_ ?_⟩
  · subst hm
    rw [if_neg b7, if_neg b6, if_neg b5, z1] at hb
    simp only [Option.some.injEq] at hb
    subst hb
    exact ⟨rfl, rfl⟩
  · refine HSol.set (HSol.set (HSol.set (hsolN (HSol.set (HSol.set (HSol.set hSol (by simp)) (by simp)) (by simp))) ?_) (by simp)) (by simp)
    intro e he d hd
    rcases List.mem_append.1 he with he | he
    · obtain ⟨u, -, rfl⟩ := List.mem_map.1 he
      simp at hd; subst hd; rfl
    · rw [List.mem_singleton] at he; subst he; simp at hd; subst hd; rfl
  · repeat rw [Hp.set_ne _ _ (by first | assumption | omega)]
  · repeat rw [Hp.set_ne _ _ (by first | assumption | omega)]
    exact hfr p (by omega)
  · repeat (first | rw [Hp.set_same] | rw [Hp.set_ne _ _ (by first | assumption | omega)])
    simp [txtBlk]
  · repeat (first | rw [Hp.set_same] | rw [Hp.set_ne _ _ (by first | assumption | omega)])
theorem heapCallX_ic {H : Hp} {lo nx nS : Nat} {A : Ad → Nat} {s : GState} (hq : cellsQ wordsT s = 0) (S : Bool) (call : Int) (hcall : call = 4) (args : List GVal) (hf : ∀ v ∈ args, fitsB s v = true) (hSol : HSol H) (hO : OwnS H lo A s) (hS : H nS = some (stB A s)) (hSn : ∀ x, Live s x → A x ≠ nS) (hlo : lo ≤ nx) {K : D → Hp → Nat → Prop} (hK : CallK H nx lo nS A s (callW s call args) K) :
    ICall Tryz.prog 25 [hpO nS, dI call, dL S (args.map eVal)] H nx K := by
  refine ICall.fresh (by kernel_rfl) fun hfr => ICall.cut ?_
  have n1 : ∀ x, Live s x → A x < nx := fun x hx => hO.lt hfr hx
  have pS := fresh_lt hfr hS
  refine fni_ok [0,1,2,3,6,7,8,9,10,11,12,18,22,29,30,31,32,42,45,46,55,66,74,84,99,104,116,123,130] [(9, [0,0,0,6,0,31,63], (.seg 0 (.seg 1 (.seg 2 (.seg 3 (.seg 4 (.eff 5 [] (.seg 6 .last)))))))), (14, [0,0,2,6,15,31,31,127,255], (.seg 0 (.seg 1 (.seg 2 (.seg 3 (.eff 4 [] (.seg 5 (.seg 6 (.eff 7 [] (.seg 8 .last)))))))))), (16, [0,0,0,4,12,30,63,127,127,511,1023], (.seg 0 (.seg 1 (.seg 2 (.seg 3 (.seg 4 (.eff 5 [0] (.eff 6 [] (.seg 7 (.seg 8 (.eff 9 [] (.seg 10 .last)))))))))))), (18, [0,0,2,6,15,31,63,127], (.seg 0 (.seg 1 (.seg 2 (.seg 3 (.eff 4 [] (.seg 5 (.eff 6 [] (.seg 7 .last))))))))), (27, [0,0,2,6,15,31,63,127,255,511,1023,2047], (.seg 0 (.seg 1 (.seg 2 (.seg 3 (.eff 4 [] (.seg 5 (.seg 6 (.seg 7 (.seg 8 (.eff 9 [] (.eff 10 [] (.seg 11 .last)))))))))))))] Tryz.func25 rfl (by kernel_rfl) rfl rfl rfl rfl (by kernel_rfl) ?_
  simp [Nat.add_assoc]
  have hM1 : OwnS ((H.set nx (some ⟨.c 65, 1, [[.ptr nS 8 0 0]]⟩)).set (nx + 1) (some ⟨.c 31, 2, [[.d (.lit (.int .i64 0)), .d (.lit (.int .i64 0))]]⟩)) lo A s := (hO.set_low _ fun x hx => by have := n1 x hx; omega).set_low _ fun x hx => by have := n1 x hx; omega
  have hM2 : ∀ i, i < nx → ((H.set nx (some ⟨.c 65, 1, [[.ptr nS 8 0 0]]⟩)).set (nx + 1) (some ⟨.c 31, 2, [[.d (.lit (.int .i64 0)), .d (.lit (.int .i64 0))]]⟩)) i = H i := fun i hi => by rw [Hp.set_ne _ _ (by omega), Hp.set_ne _ _ (by omega)]
  have hM3 : HSol ((H.set nx (some ⟨.c 65, 1, [[.ptr nS 8 0 0]]⟩)).set (nx + 1) (some ⟨.c 31, 2, [[.d (.lit (.int .i64 0)), .d (.lit (.int .i64 0))]]⟩)) := HSol.set (HSol.set hSol (by simp)) (by simp)
  have hM5 : ((H.set nx (some ⟨.c 65, 1, [[.ptr nS 8 0 0]]⟩)).set (nx + 1) (some ⟨.c 31, 2, [[.d (.lit (.int .i64 0)), .d (.lit (.int .i64 0))]]⟩)) nx = some ⟨.c 65, 1, [[.ptr nS 8 0 0]]⟩ := by simp
  have hM6 : ((H.set nx (some ⟨.c 65, 1, [[.ptr nS 8 0 0]]⟩)).set (nx + 1) (some ⟨.c 31, 2, [[.d (.lit (.int .i64 0)), .d (.lit (.int .i64 0))]]⟩)) (nx + 1) = some ⟨.c 31, 2, [[.d (.lit (.int .i64 0)), .d (.lit (.int .i64 0))]]⟩ := by simp
  generalize ((H.set nx (some ⟨.c 65, 1, [[.ptr nS 8 0 0]]⟩)).set (nx + 1) (some ⟨.c 31, 2, [[.d (.lit (.int .i64 0)), .d (.lit (.int .i64 0))]]⟩)) = M at *
  have hsub : ∀ i y, H i = some y → M i = some y := fun i y hy => by rw [hM2 i (fresh_lt hfr hy)]; exact hy
  have hsub1 : ∀ (B : Blk) i y, H i = some y → (M.set (nx + 1) (some B)) i = some y := fun B i y hy => by rw [Hp.set_ne _ _ (by have := fresh_lt hfr hy; omega)]; exact hsub i y hy
  by_cases hc : call < 0 ∨ 16 ≤ call
  · have e : callW s call args = (s, nilG, 0) := by unfold callW; rw [if_pos hc]
    rw [e] at hK
    refine cform_no call hc ?_
    simp [hM6]
    exact ⟨HSol.set hM3 (by simp), H, hsub1 _, hK.bad (by simp) _ (by omega)⟩
  obtain ⟨c, rfl⟩ : ∃ c : Nat, call = c := ⟨call.toNat, by omega⟩
  have hc16 : c < 16 := by omega
  refine cform_ok c hc16 ?_
  have hf3 : (formB c).length ≤ 3 := by
    have : c = 0 ∨ c = 1 ∨ c = 2 ∨ c = 3 ∨ c = 4 ∨ c = 5 ∨ c = 6 ∨ c = 7 ∨ c = 8 ∨ c = 9 ∨ c = 10 ∨ c = 11 ∨ c = 12 ∨ c = 13 ∨ c = 14 ∨ c = 15 := by omega
    rcases this with rfl | rfl | rfl | rfl | rfl | rfl | rfl | rfl | rfl | rfl | rfl | rfl | rfl | rfl | rfl | rfl <;> decide
  have hsz : (⟨(formB c).toArray⟩ : ByteArray).size = (formB c).length := by simp [ByteArray.size]
  by_cases hl : args.length = (formB c).length
  case neg =>
    have e : callW s c args = (s, nilG, 7) := by unfold callW; rw [if_neg hc, if_pos (by simpa using hl)]
    rw [e] at hK
    have hl' : ¬ (args.length : Int) = ((formB c).length : Int) := by omega
    simp [hM6, hl, hl', hsz]
    intros
    exact ⟨HSol.set hM3 (by simp), H, hsub1 _, hK.bad (by simp) _ (by omega)⟩
  obtain ⟨f, hfm⟩ : ∃ f, f = formB c := ⟨_, rfl⟩
  rw [← hfm] at hl hf3 hsz ⊢
  simp [hl, hsz]
  intro _
  refine loopH_ok (ks := [0,1,2,3,6,7,8,9,10,11,12,18,22,29,30,31,32,42,45,46,55,66,74,84,99,104,116,123,130]) (pl := [(9, [0,0,0,6,0,31,63], (.seg 0 (.seg 1 (.seg 2 (.seg 3 (.seg 4 (.eff 5 [] (.seg 6 .last)))))))), (14, [0,0,2,6,15,31,31,127,255], (.seg 0 (.seg 1 (.seg 2 (.seg 3 (.eff 4 [] (.seg 5 (.seg 6 (.eff 7 [] (.seg 8 .last)))))))))), (16, [0,0,0,4,12,30,63,127,127,511,1023], (.seg 0 (.seg 1 (.seg 2 (.seg 3 (.seg 4 (.eff 5 [0] (.eff 6 [] (.seg 7 (.seg 8 (.eff 9 [] (.seg 10 .last)))))))))))), (18, [0,0,2,6,15,31,63,127], (.seg 0 (.seg 1 (.seg 2 (.seg 3 (.eff 4 [] (.seg 5 (.eff 6 [] (.seg 7 .last))))))))), (27, [0,0,2,6,15,31,63,127,255,511,1023,2047], (.seg 0 (.seg 1 (.seg 2 (.seg 3 (.eff 4 [] (.seg 5 (.seg 6 (.seg 7 (.seg 8 (.eff 9 [] (.eff 10 [] (.seg 11 .last)))))))))))))]) (n0 := 140) (α := {x : HcS // HcI M (nx + 2) s args f x}) (fun x => [(31, dI x.1.k)]) (fun _ x => x.1.H) (fun x => x.1.nx) (fun x => args.length - x.1.k) ⟨⟨0, M, nx + 2⟩, ⟨Nat.zero_le _, Nat.le_refl _, fun _ _ => rfl, hM3, fun i h => absurd h (Nat.not_lt_zero _)⟩⟩ rfl (by kernel_rfl) (Wk.sub (by simp)) ?_
  rintro ⟨⟨k, H2, nx2⟩, hI⟩
  obtain ⟨hk, hn, hlow, hsol, hall⟩ := hI
  simp only at hk hn hlow hsol hall
  have q5 : H2 nx = some ⟨.c 65, 1, [[.ptr nS 8 0 0]]⟩ := by rw [hlow nx (by omega)]; exact hM5
  have q6 : H2 (nx + 1) = some ⟨.c 31, 2, [[.d (.lit (.int .i64 0)), .d (.lit (.int .i64 0))]]⟩ := by rw [hlow (nx + 1) (by omega)]; exact hM6
  have qS : H2 nS = some (stB A s) := by rw [hlow nS (by omega), hM2 nS pS]; exact hS
  have qO : OwnS H2 lo A s := hM1.low fun x hx => hlow _ (by have := n1 x hx; omega)
  have qsub : ∀ i y, H i = some y → H2 i = some y := fun i y hy => by rw [hlow i (by have := fresh_lt hfr hy; omega)]; exact hsub i y hy
  have qsub1 : ∀ (B : Blk) i y, H i = some y → (H2.set (nx + 1) (some B)) i = some y := fun B i y hy => by rw [Hp.set_ne _ _ (by have := fresh_lt hfr hy; omega)]; exact qsub i y hy
  by_cases h1 : k < f.length
  · have h1' : (k : Int) < (f.length : Int) := by omega
    have h2 : k < args.length := by omega
    have d1 : ¬ nx = nx2 := by omega
    have d2 : ¬ nx + 1 = nx2 := by omega
    have d3 : ¬ nS = nx2 := by omega
    simp [h1, h1', h2, q5, d1, d2]
    have solV : HSol (H2.set nx2 (some ⟨.c 31, 2, [[.d (eI args[k].kind), .d (eI args[k].n)]]⟩)) := hsol.set (by simp)
    have oV : OwnS (H2.set nx2 (some ⟨.c 31, 2, [[.d (eI args[k].kind), .d (eI args[k].n)]]⟩)) lo A s := qO.set_low _ fun x hx => by have := n1 x hx; omega
    have sV : (H2.set nx2 (some ⟨.c 31, 2, [[.d (eI args[k].kind), .d (eI args[k].n)]]⟩)) nS = some (stB A s) := by rw [Hp.set_ne _ _ d3]; exact qS
    refine ICall.lendL (es := [hpD true s, .one (.d (.lit (.int .u8 f[k].toNat))), aD (eVal args[k])]) ⟨heap_shw oV sV, ⟨_, rfl, .d rfl⟩, val_shw _, trivial⟩ (heapFits_ok s f[k] args[k] ⟨by simp, ?_⟩)
    have ea : argB s (f.getD k 0) (valAt args k) = argB s f[k] args[k] := by simp [valAt, List.getD_eq_getElem?_getD, h1, h2]
    cases hb : argB s f[k] args[k] with
    | false =>
      have e : callW s c args = (s, nilG, 0) := by
        unfold callW
        rw [if_neg hc, Int.toNat_natCast, ← hfm, if_neg (by omega), if_pos ?_]
        rw [Bool.eq_false_iff]
        intro h
        have := (argsB_all hl).1 h k h2
        rw [ea, hb] at this
        cases this
      rw [e] at hK
      simp [q6, d2]
      exact ⟨HSol.set solV (by simp), H, fun i y hy => by rw [Hp.set_ne _ _ (by have := fresh_lt hfr hy; omega), Hp.set_ne _ _ (by have := fresh_lt hfr hy; omega)]; exact qsub i y hy, hK.bad (by simp) _ (by omega)⟩
    | true =>
      simp
      exact ⟨⟨k + 1, H2.set nx2 (some ⟨.c 31, 2, [[.d (eI args[k].kind), .d (eI args[k].n)]]⟩), nx2 + 1⟩, by simp only; omega, ⟨by simp only; omega, by simp only; omega, fun i hi => by simp only; rw [Hp.set_ne _ _ (by omega)]; exact hlow i hi, solV, fun i hi => by
        simp only at hi
        by_cases hik : i = k
        · subst hik; rw [ea]; exact hb
        · exact hall i (by omega)⟩, Wk.sub (by simp [wrap_add (show k < 9223372036854775807 by omega)])⟩
  have hk1 : k = args.length := by omega
  have hab : argsB s f args = true := (argsB_all hl).2 fun i hi => hall i (by omega)
  have e : callW s c args = callR s c args := by rw [hfm] at hl hab; exact callW_at hc16 hl hab
  rw [e] at hK
  have h1' : ¬ (k : Int) < (f.length : Int) := by omega
  have fin : ∀ (H3 : Hp) (nx3 : Nat) (A3 : Ad → Nat) (B : Blk), newRs B.es → nx2 ≤ nx3 → (∀ q, q < nx2 → (∀ x, Live s x → q ≠ A x) → q ≠ nS → H3 q = H2 q) → (∀ q, nx3 ≤ q → H3 q = none) → HSol H3 → OwnS H3 lo A3 (callR s c args).1 → H3 nS = some (stB A3 (callR s c args).1) → (∀ x, Live (callR s c args).1 x → (∃ y, Live s y ∧ A3 x = A y) ∨ nx2 ≤ A3 x) → (callR s c args).2.2 = -1 →
      HSol (H3.set (nx + 1) (some B)) ∧ cutK K (.tup [aD (eVal (callR s c args).2.1), dI (-1)]) (H3.set (nx + 1) (some B)) nx3 := by
    intro H3 nx3 A3 B hB g1 g2 g3 g4 g5 g6 g7 g8
    have hA : ∀ x, Live (callR s c args).1 x → A3 x ≠ nx + 1 := fun x hx => by
      rcases g7 x hx with ⟨y, hy, e⟩ | e
      · have := n1 y hy; omega
      · omega
    have g9 : HSol (H3.set (nx + 1) (some B)) := HSol.set g4 hB.sol
    refine ⟨g9, _, fun _ _ h => h, hK.ok g8 _ nx3 A3 (by omega) (fun q h1 h2 h3 => ?_) (fun q hq => ?_) g9 (g5.set_low _ hA) ?_ fun x hx => ?_⟩
    · rw [Hp.set_ne _ _ (by omega), g2 q (by omega) h2 h3, hlow q (by omega), hM2 q h1]
    · rw [Hp.set_ne _ _ (by omega)]; exact g3 q hq
    · rw [Hp.set_ne _ _ (by omega)]; exact g6
    · rcases g7 x hx with h | h
      · exact .inl h
      · exact .inr (by omega)
  obtain rfl : c = 4 := by omega
  obtain ⟨a, rfl⟩ : ∃ a, args = [a] := List.length_eq_one_iff.1 (by rw [hl, hfm]; rfl)
  subst hfm
  simp only [callR, valAt, List.getD_cons_zero] at hK fin
  simp only [formB, List.length_cons, List.length_nil] at *
  obtain rfl : k = 1 := by omega
  simp [q5]
  refine ⟨[hpD true s, aD (eVal a)], ⟨heap_shw qO qS, val_shw _, trivial⟩, heapText_ok s hq a (hf a (by simp)) ⟨by simp, ?_⟩⟩
  refine intern_ic hq (textW s a) hsol qO qS hSn (by omega) ⟨fun he nx3 hn3 => ?_, fun he H3 nx3 A3 hn3 low3 high3 sol3 O3 S3 lv3 => ?_⟩
  · simp [q6]
    exact ⟨HSol.set hsol (by simp), H, qsub1 _, hK.bad he _ (by omega)⟩
  · have r6 : H3 (nx + 1) = some ⟨.c 31, 2, [[.d (.lit (.int .i64 0)), .d (.lit (.int .i64 0))]]⟩ := by rw [low3 _ (by omega) (fun x hx => by have := n1 x hx; omega) (by omega)]; exact q6
    simp [r6]
    exact fin H3 nx3 A3 _ (by simp [newRs]) hn3 low3 high3 sol3 O3 S3 lv3 he
theorem hcX : HcOk 4 := fun hq _ S args hf hSol hO hS hSn hlo _ hK => heapCallX_ic hq S 4 rfl args hf hSol hO hS hSn hlo hK
theorem makeN_ic {H : Hp} {lo nx nS : Nat} {A : Ad → Nat} {s : GState} (hq : cellsQ wordsT s = 0) (k n : Int) (hSol : HSol H) (hO : OwnS H lo A s) (hS : H nS = some (stB A s)) (hSn : ∀ x, Live s x → A x ≠ nS) (hlo : lo ≤ nx) {K : D → Hp → Nat → Prop} (hK : CallK H nx lo nS A s (makeW s ⟨k, n, [], []⟩) K) :
    ICall Tryz.prog 81 [hpO nS, .agg [.d (eI k), .d (eI n), .d .emp, .d .emp]] H nx K := by
  refine ICall.fresh (by kernel_rfl) fun hfr => ICall.cut ?_
  have n1 : ∀ x, Live s x → A x < nx := fun x hx => hO.lt hfr hx
  have pS := fresh_lt hfr hS
  refine ICall.ownA 31 2 (es := [hpO nS, .agg [.d (eI k), .d (eI n), .own nx 2 0, .d .emp]]) ⟨⟨.inl rfl, trivial⟩, ⟨.inl rfl, .inl rfl, .inr ⟨rfl, _, rfl⟩, .inl rfl, trivial⟩, trivial⟩ ?_
  refine ICall.ownA 100 8 (es := [hpO nS, .agg [.d (eI k), .d (eI n), .own nx 2 0, .own (nx + 1) 8 0]]) ⟨⟨.inl rfl, trivial⟩, ⟨.inl rfl, .inl rfl, .inl rfl, .inr ⟨rfl, _, rfl⟩, trivial⟩, trivial⟩ ?_
  have hsub : ∀ i y, H i = some y → ((H.set nx (some ⟨.c 31, 2, []⟩)).set (nx + 1) (some ⟨.c 100, 8, []⟩)) i = some y := fun i y hy => by have := fresh_lt hfr hy; rw [Hp.set_ne _ _ (by omega), Hp.set_ne _ _ (by omega)]; exact hy
  have hlow : ∀ i, i < nx → ((H.set nx (some ⟨.c 31, 2, []⟩)).set (nx + 1) (some ⟨.c 100, 8, []⟩)) i = H i := fun i hi => by rw [Hp.set_ne _ _ (by omega), Hp.set_ne _ _ (by omega)]
  refine make_ic (lo := lo) (A := A) (s := s) hq ⟨k, n, [], []⟩ nx (nx + 1) [] rfl (by rw [Hp.set_ne _ _ (by omega)]; exact Hp.set_same _ _ _) (Hp.set_same _ _ _) (by omega) (fun x hx => by have := n1 x hx; omega) (by omega) (by omega) (HSol.set (HSol.set hSol (by simp)) (by simp)) (hO.low fun x hx => hlow _ (n1 x hx)) (by rw [hlow _ pS]; exact hS) hSn (by omega) (fun hb nx3 hn3 => ?_) (fun hb H3 nx3 A3 hn3 low3 high3 sol3 O3 S3 lv3 => ?_)
  · unfold makeW at hK
    rw [if_pos hb] at hK
    exact ⟨H, hsub, hK.bad (by simp) _ (by omega)⟩
  · unfold makeW at hK
    rw [if_neg hb] at hK
    refine ⟨H3, fun _ _ h => h, hK.ok rfl H3 nx3 A3 (by omega) (fun p h1 h2 h3 => ?_) high3 sol3 O3 S3 fun x hx => ?_⟩
    · rw [low3 p (by omega) h2 h3, hlow p h1]
    · rcases lv3 x hx with h | e | e | e
      · exact .inl h
      · exact .inr (by omega)
      · exact .inr (by omega)
      · exact .inr (by omega)
theorem heapCallM_ic {H : Hp} {lo nx nS : Nat} {A : Ad → Nat} {s : GState} (hq : cellsQ wordsT s = 0) (S : Bool) (call : Int) (hcall : call = 10 ∨ call = 11) (args : List GVal) (hf : ∀ v ∈ args, fitsB s v = true) (hSol : HSol H) (hO : OwnS H lo A s) (hS : H nS = some (stB A s)) (hSn : ∀ x, Live s x → A x ≠ nS) (hlo : lo ≤ nx) {K : D → Hp → Nat → Prop} (hK : CallK H nx lo nS A s (callW s call args) K) :
    ICall Tryz.prog 25 [hpO nS, dI call, dL S (args.map eVal)] H nx K := by
  refine ICall.fresh (by kernel_rfl) fun hfr => ICall.cut ?_
  have n1 : ∀ x, Live s x → A x < nx := fun x hx => hO.lt hfr hx
  have pS := fresh_lt hfr hS
  refine fni_ok [0,1,2,3,6,7,8,9,10,11,12,18,22,29,30,31,32,42,45,46,55,66,74,84,99,104,116,123,130] [(9, [0,0,0,6,0,31,63], (.seg 0 (.seg 1 (.seg 2 (.seg 3 (.seg 4 (.eff 5 [] (.seg 6 .last)))))))), (14, [0,0,2,6,15,31,31,127,255], (.seg 0 (.seg 1 (.seg 2 (.seg 3 (.eff 4 [] (.seg 5 (.seg 6 (.eff 7 [] (.seg 8 .last)))))))))), (16, [0,0,0,4,12,30,63,127,127,511,1023], (.seg 0 (.seg 1 (.seg 2 (.seg 3 (.seg 4 (.eff 5 [0] (.eff 6 [] (.seg 7 (.seg 8 (.eff 9 [] (.seg 10 .last)))))))))))), (18, [0,0,2,6,15,31,63,127], (.seg 0 (.seg 1 (.seg 2 (.seg 3 (.eff 4 [] (.seg 5 (.eff 6 [] (.seg 7 .last))))))))), (27, [0,0,2,6,15,31,63,127,255,511,1023,2047], (.seg 0 (.seg 1 (.seg 2 (.seg 3 (.eff 4 [] (.seg 5 (.seg 6 (.seg 7 (.seg 8 (.eff 9 [] (.eff 10 [] (.seg 11 .last)))))))))))))] Tryz.func25 rfl (by kernel_rfl) rfl rfl rfl rfl (by kernel_rfl) ?_
  simp [Nat.add_assoc]
  have hM1 : OwnS ((H.set nx (some ⟨.c 65, 1, [[.ptr nS 8 0 0]]⟩)).set (nx + 1) (some ⟨.c 31, 2, [[.d (.lit (.int .i64 0)), .d (.lit (.int .i64 0))]]⟩)) lo A s := (hO.set_low _ fun x hx => by have := n1 x hx; omega).set_low _ fun x hx => by have := n1 x hx; omega
  have hM2 : ∀ i, i < nx → ((H.set nx (some ⟨.c 65, 1, [[.ptr nS 8 0 0]]⟩)).set (nx + 1) (some ⟨.c 31, 2, [[.d (.lit (.int .i64 0)), .d (.lit (.int .i64 0))]]⟩)) i = H i := fun i hi => by rw [Hp.set_ne _ _ (by omega), Hp.set_ne _ _ (by omega)]
  have hM3 : HSol ((H.set nx (some ⟨.c 65, 1, [[.ptr nS 8 0 0]]⟩)).set (nx + 1) (some ⟨.c 31, 2, [[.d (.lit (.int .i64 0)), .d (.lit (.int .i64 0))]]⟩)) := HSol.set (HSol.set hSol (by simp)) (by simp)
  have hM5 : ((H.set nx (some ⟨.c 65, 1, [[.ptr nS 8 0 0]]⟩)).set (nx + 1) (some ⟨.c 31, 2, [[.d (.lit (.int .i64 0)), .d (.lit (.int .i64 0))]]⟩)) nx = some ⟨.c 65, 1, [[.ptr nS 8 0 0]]⟩ := by simp
  have hM6 : ((H.set nx (some ⟨.c 65, 1, [[.ptr nS 8 0 0]]⟩)).set (nx + 1) (some ⟨.c 31, 2, [[.d (.lit (.int .i64 0)), .d (.lit (.int .i64 0))]]⟩)) (nx + 1) = some ⟨.c 31, 2, [[.d (.lit (.int .i64 0)), .d (.lit (.int .i64 0))]]⟩ := by simp
  generalize ((H.set nx (some ⟨.c 65, 1, [[.ptr nS 8 0 0]]⟩)).set (nx + 1) (some ⟨.c 31, 2, [[.d (.lit (.int .i64 0)), .d (.lit (.int .i64 0))]]⟩)) = M at *
  have hsub : ∀ i y, H i = some y → M i = some y := fun i y hy => by rw [hM2 i (fresh_lt hfr hy)]; exact hy
  have hsub1 : ∀ (B : Blk) i y, H i = some y → (M.set (nx + 1) (some B)) i = some y := fun B i y hy => by rw [Hp.set_ne _ _ (by have := fresh_lt hfr hy; omega)]; exact hsub i y hy
  by_cases hc : call < 0 ∨ 16 ≤ call
  · have e : callW s call args = (s, nilG, 0) := by unfold callW; rw [if_pos hc]
    rw [e] at hK
    refine cform_no call hc ?_
    simp [hM6]
    exact ⟨HSol.set hM3 (by simp), H, hsub1 _, hK.bad (by simp) _ (by omega)⟩
  obtain ⟨c, rfl⟩ : ∃ c : Nat, call = c := ⟨call.toNat, by omega⟩
  have hc16 : c < 16 := by omega
  refine cform_ok c hc16 ?_
  have hf3 : (formB c).length ≤ 3 := by
    have : c = 0 ∨ c = 1 ∨ c = 2 ∨ c = 3 ∨ c = 4 ∨ c = 5 ∨ c = 6 ∨ c = 7 ∨ c = 8 ∨ c = 9 ∨ c = 10 ∨ c = 11 ∨ c = 12 ∨ c = 13 ∨ c = 14 ∨ c = 15 := by omega
    rcases this with rfl | rfl | rfl | rfl | rfl | rfl | rfl | rfl | rfl | rfl | rfl | rfl | rfl | rfl | rfl | rfl <;> decide
  have hsz : (⟨(formB c).toArray⟩ : ByteArray).size = (formB c).length := by simp [ByteArray.size]
  by_cases hl : args.length = (formB c).length
  case neg =>
    have e : callW s c args = (s, nilG, 7) := by unfold callW; rw [if_neg hc, if_pos (by simpa using hl)]
    rw [e] at hK
    have hl' : ¬ (args.length : Int) = ((formB c).length : Int) := by omega
    simp [hM6, hl, hl', hsz]
    intros
    exact ⟨HSol.set hM3 (by simp), H, hsub1 _, hK.bad (by simp) _ (by omega)⟩
  obtain ⟨f, hfm⟩ : ∃ f, f = formB c := ⟨_, rfl⟩
  rw [← hfm] at hl hf3 hsz ⊢
  simp [hl, hsz]
  intro _
  refine loopH_ok (ks := [0,1,2,3,6,7,8,9,10,11,12,18,22,29,30,31,32,42,45,46,55,66,74,84,99,104,116,123,130]) (pl := [(9, [0,0,0,6,0,31,63], (.seg 0 (.seg 1 (.seg 2 (.seg 3 (.seg 4 (.eff 5 [] (.seg 6 .last)))))))), (14, [0,0,2,6,15,31,31,127,255], (.seg 0 (.seg 1 (.seg 2 (.seg 3 (.eff 4 [] (.seg 5 (.seg 6 (.eff 7 [] (.seg 8 .last)))))))))), (16, [0,0,0,4,12,30,63,127,127,511,1023], (.seg 0 (.seg 1 (.seg 2 (.seg 3 (.seg 4 (.eff 5 [0] (.eff 6 [] (.seg 7 (.seg 8 (.eff 9 [] (.seg 10 .last)))))))))))), (18, [0,0,2,6,15,31,63,127], (.seg 0 (.seg 1 (.seg 2 (.seg 3 (.eff 4 [] (.seg 5 (.eff 6 [] (.seg 7 .last))))))))), (27, [0,0,2,6,15,31,63,127,255,511,1023,2047], (.seg 0 (.seg 1 (.seg 2 (.seg 3 (.eff 4 [] (.seg 5 (.seg 6 (.seg 7 (.seg 8 (.eff 9 [] (.eff 10 [] (.seg 11 .last)))))))))))))]) (n0 := 140) (α := {x : HcS // HcI M (nx + 2) s args f x}) (fun x => [(31, dI x.1.k)]) (fun _ x => x.1.H) (fun x => x.1.nx) (fun x => args.length - x.1.k) ⟨⟨0, M, nx + 2⟩, ⟨Nat.zero_le _, Nat.le_refl _, fun _ _ => rfl, hM3, fun i h => absurd h (Nat.not_lt_zero _)⟩⟩ rfl (by kernel_rfl) (Wk.sub (by simp)) ?_
  rintro ⟨⟨k, H2, nx2⟩, hI⟩
  obtain ⟨hk, hn, hlow, hsol, hall⟩ := hI
  simp only at hk hn hlow hsol hall
  have q5 : H2 nx = some ⟨.c 65, 1, [[.ptr nS 8 0 0]]⟩ := by rw [hlow nx (by omega)]; exact hM5
  have q6 : H2 (nx + 1) = some ⟨.c 31, 2, [[.d (.lit (.int .i64 0)), .d (.lit (.int .i64 0))]]⟩ := by rw [hlow (nx + 1) (by omega)]; exact hM6
  have qS : H2 nS = some (stB A s) := by rw [hlow nS (by omega), hM2 nS pS]; exact hS
  have qO : OwnS H2 lo A s := hM1.low fun x hx => hlow _ (by have := n1 x hx; omega)
  have qsub : ∀ i y, H i = some y → H2 i = some y := fun i y hy => by rw [hlow i (by have := fresh_lt hfr hy; omega)]; exact hsub i y hy
  have qsub1 : ∀ (B : Blk) i y, H i = some y → (H2.set (nx + 1) (some B)) i = some y := fun B i y hy => by rw [Hp.set_ne _ _ (by have := fresh_lt hfr hy; omega)]; exact qsub i y hy
  by_cases h1 : k < f.length
  · have h1' : (k : Int) < (f.length : Int) := by omega
    have h2 : k < args.length := by omega
    have d1 : ¬ nx = nx2 := by omega
    have d2 : ¬ nx + 1 = nx2 := by omega
    have d3 : ¬ nS = nx2 := by omega
    simp [h1, h1', h2, q5, d1, d2]
    have solV : HSol (H2.set nx2 (some ⟨.c 31, 2, [[.d (eI args[k].kind), .d (eI args[k].n)]]⟩)) := hsol.set (by simp)
    have oV : OwnS (H2.set nx2 (some ⟨.c 31, 2, [[.d (eI args[k].kind), .d (eI args[k].n)]]⟩)) lo A s := qO.set_low _ fun x hx => by have := n1 x hx; omega
    have sV : (H2.set nx2 (some ⟨.c 31, 2, [[.d (eI args[k].kind), .d (eI args[k].n)]]⟩)) nS = some (stB A s) := by rw [Hp.set_ne _ _ d3]; exact qS
    refine ICall.lendL (es := [hpD true s, .one (.d (.lit (.int .u8 f[k].toNat))), aD (eVal args[k])]) ⟨heap_shw oV sV, ⟨_, rfl, .d rfl⟩, val_shw _, trivial⟩ (heapFits_ok s f[k] args[k] ⟨by simp, ?_⟩)
    have ea : argB s (f.getD k 0) (valAt args k) = argB s f[k] args[k] := by simp [valAt, List.getD_eq_getElem?_getD, h1, h2]
    cases hb : argB s f[k] args[k] with
    | false =>
      have e : callW s c args = (s, nilG, 0) := by
        unfold callW
        rw [if_neg hc, Int.toNat_natCast, ← hfm, if_neg (by omega), if_pos ?_]
        rw [Bool.eq_false_iff]
        intro h
        have := (argsB_all hl).1 h k h2
        rw [ea, hb] at this
        cases this
      rw [e] at hK
      simp [q6, d2]
      exact ⟨HSol.set solV (by simp), H, fun i y hy => by rw [Hp.set_ne _ _ (by have := fresh_lt hfr hy; omega), Hp.set_ne _ _ (by have := fresh_lt hfr hy; omega)]; exact qsub i y hy, hK.bad (by simp) _ (by omega)⟩
    | true =>
      simp
      exact ⟨⟨k + 1, H2.set nx2 (some ⟨.c 31, 2, [[.d (eI args[k].kind), .d (eI args[k].n)]]⟩), nx2 + 1⟩, by simp only; omega, ⟨by simp only; omega, by simp only; omega, fun i hi => by simp only; rw [Hp.set_ne _ _ (by omega)]; exact hlow i hi, solV, fun i hi => by
        simp only at hi
        by_cases hik : i = k
        · subst hik; rw [ea]; exact hb
        · exact hall i (by omega)⟩, Wk.sub (by simp [wrap_add (show k < 9223372036854775807 by omega)])⟩
  have hk1 : k = args.length := by omega
  have hab : argsB s f args = true := (argsB_all hl).2 fun i hi => hall i (by omega)
  have e : callW s c args = callR s c args := by rw [hfm] at hl hab; exact callW_at hc16 hl hab
  rw [e] at hK
  have h1' : ¬ (k : Int) < (f.length : Int) := by omega
  have fin : ∀ (H3 : Hp) (nx3 : Nat) (A3 : Ad → Nat) (B : Blk), newRs B.es → nx2 ≤ nx3 → (∀ q, q < nx2 → (∀ x, Live s x → q ≠ A x) → q ≠ nS → H3 q = H2 q) → (∀ q, nx3 ≤ q → H3 q = none) → HSol H3 → OwnS H3 lo A3 (callR s c args).1 → H3 nS = some (stB A3 (callR s c args).1) → (∀ x, Live (callR s c args).1 x → (∃ y, Live s y ∧ A3 x = A y) ∨ nx2 ≤ A3 x) → (callR s c args).2.2 = -1 →
      HSol (H3.set (nx + 1) (some B)) ∧ cutK K (.tup [aD (eVal (callR s c args).2.1), dI (-1)]) (H3.set (nx + 1) (some B)) nx3 := by
    intro H3 nx3 A3 B hB g1 g2 g3 g4 g5 g6 g7 g8
    have hA : ∀ x, Live (callR s c args).1 x → A3 x ≠ nx + 1 := fun x hx => by
      rcases g7 x hx with ⟨y, hy, e⟩ | e
      · have := n1 y hy; omega
      · omega
    have g9 : HSol (H3.set (nx + 1) (some B)) := HSol.set g4 hB.sol
    refine ⟨g9, _, fun _ _ h => h, hK.ok g8 _ nx3 A3 (by omega) (fun q h1 h2 h3 => ?_) (fun q hq => ?_) g9 (g5.set_low _ hA) ?_ fun x hx => ?_⟩
    · rw [Hp.set_ne _ _ (by omega), g2 q (by omega) h2 h3, hlow q (by omega), hM2 q h1]
    · rw [Hp.set_ne _ _ (by omega)]; exact g3 q hq
    · rw [Hp.set_ne _ _ (by omega)]; exact g6
    · rcases g7 x hx with h | h
      · exact .inl h
      · exact .inr (by omega)
  have hc3 : c = 10 ∨ c = 11 := by omega
  rcases hc3 with rfl | rfl
  all_goals
    obtain rfl : args = [] := List.length_eq_zero_iff.1 (by rw [hl, hfm]; rfl)
    subst hfm
    simp only [callR] at hK fin
    simp only [formB, List.length_cons, List.length_nil] at *
    obtain rfl : k = 0 := by omega
    simp [q5]
    refine makeN_ic hq _ _ hsol qO qS hSn (by omega) ⟨fun he nx3 hn3 => ?_, fun he H3 nx3 A3 hn3 low3 high3 sol3 O3 S3 lv3 => ?_⟩
    · simp [q6]
      exact ⟨HSol.set hsol (by simp), H, qsub1 _, hK.bad he _ (by omega)⟩
    · have r6 : H3 (nx + 1) = some ⟨.c 31, 2, [[.d (.lit (.int .i64 0)), .d (.lit (.int .i64 0))]]⟩ := by rw [low3 _ (by omega) (fun x hx => by have := n1 x hx; omega) (by omega)]; exact q6
      simp [r6]
      exact fin H3 nx3 A3 _ (by simp [newRs]) hn3 low3 high3 sol3 O3 S3 lv3 he
theorem hcM {call : Int} (h : call = 10 ∨ call = 11) : HcOk call := fun hq _ S args hf hSol hO hS hSn hlo _ hK => heapCallM_ic hq S call h args hf hSol hO hS hSn hlo hK
end Go.Proofs.YtbphdcffpobcbaaGreatDoor
