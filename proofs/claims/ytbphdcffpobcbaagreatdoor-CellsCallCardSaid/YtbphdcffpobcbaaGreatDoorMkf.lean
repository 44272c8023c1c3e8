/- Several texts in one. -/
import Derived.Test.YtbphdcffpobcbaaGreatDoorMke
set_option linter.unusedSimpArgs false
set_option linter.unusedVariables false
set_option maxRecDepth 100000
set_option maxHeartbeats 16000000
namespace Go.Proofs.YtbphdcffpobcbaaGreatDoor
open Go.RowKit Go
structure HcS where
  k : Nat
  H : Hp
  nx : Nat
structure HcI (M : Hp) (n0 : Nat) (s : GState) (args : List GVal) (f : List UInt8) (x : HcS) : Prop where
  k : x.k ≤ args.length
  le : n0 ≤ x.nx
  low : ∀ i, i < n0 → x.H i = M i
  sol : HSol x.H
  all : ∀ (i : Nat) (h : i < x.k), argB s (f.getD i 0) (valAt args i) = true
theorem argsB_all {s : GState} {f : List UInt8} {args : List GVal} (hl : args.length = f.length) : argsB s f args = true ↔ ∀ (i : Nat) (h : i < args.length), argB s (f.getD i 0) (valAt args i) = true := by
  unfold argsB
  rw [List.all_eq_true]
  constructor
  · intro h i hi
    have := h (f[i], args[i]) (by
      rw [List.mem_iff_getElem]
      exact ⟨i, by simp; omega, by simp⟩)
    simpa [valAt, List.getD_eq_getElem?_getD, hi, hl ▸ hi] using this
  · intro h x hx
    obtain ⟨i, hi, e⟩ := List.mem_iff_getElem.1 hx
    have hi' : i < f.length ∧ i < args.length := by have := hi; simp at this; omega
    have := h i (by omega)
    subst e
    simpa [valAt, List.getD_eq_getElem?_getD, hi'.1, hi'.2] using this
theorem long_or (s : GState) (a : GVal) : longW s a = (s, nilG, 0) ∨ ∃ w, longW s a = (s, w, -1) := by
  unfold longW
  split
  · exact .inr ⟨_, rfl⟩
  · split
    · exact .inr ⟨_, rfl⟩
    · exact .inl rfl
theorem len_two {l : List GVal} (h : l.length = 2) : ∃ a b, l = [a, b] := by match l, h with | [a, b], _ => exact ⟨a, b, rfl⟩
theorem len_three {l : List GVal} (h : l.length = 3) : ∃ a b c, l = [a, b, c] := by match l, h with | [a, b, c], _ => exact ⟨a, b, c, rfl⟩
theorem heapCallA_ic {H : Hp} {lo nx nS : Nat} {A : Ad → Nat} {s : GState} (hq : cellsQ wordsT s = 0) (S : Bool) (call : Int) (hcall : call = 0 ∨ call = 1 ∨ call = 2) (args : List GVal) (hf : ∀ v ∈ args, fitsB s v = true) (hSol : HSol H) (hO : OwnS H lo A s) (hS : H nS = some (stB A s)) (hSn : ∀ x, Live s x → A x ≠ nS) (hlo : lo ≤ nx) {K : D → Hp → Nat → Prop} (hK : CallK H nx lo nS A s (callW s call args) K) :
    ICall Tryz.prog 25 [hpO nS, dI call, dL S (args.map eVal)] H nx K := by
  refine ICall.fresh (by kernel_rfl) fun hfr => ICall.cut ?_
  have n1 : ∀ x, Live s x → A x < nx := fun x hx => hO.lt hfr hx
  have pS := fresh_lt hfr hS
  refine fni_ok [0,1,2,3,6,7,8,9,10,11,12,18,22,29,30,31,32,42,45,46,55,66,74,84,99,104,116,123,130] [(9, [0,0,0,6,0,31,63], (.seg 0 (.seg 1 (.seg 2 (.seg 3 (.seg 4 (.eff 5 [] (.seg 6 .last)))))))), (14, [0,0,2,6,15,31,31,127,255], (.seg 0 (.seg 1 (.seg 2 (.seg 3 (.eff 4 [] (.seg 5 (.seg 6 (.eff 7 [] (.seg 8 .last)))))))))), (16, [0,0,0,4,12,30,63,127,127,511,1023], (.seg 0 (.seg 1 (.seg 2 (.seg 3 (.seg 4 (.eff 5 [0] (.eff 6 [] (.seg 7 (.seg 8 (.eff 9 [] (.seg 10 .last)))))))))))), (18, [0,0,2,6,15,31,63,127], (.seg 0 (.seg 1 (.seg 2 (.seg 3 (.eff 4 [] (.seg 5 (.eff 6 [] (.seg 7 .last))))))))), (27, [0,0,2,6,15,31,63,127,255,511,1023,2047], (.seg 0 (.seg 1 (.seg 2 (.seg 3 (.eff 4 [] (.seg 5 (.seg 6 (.seg 7 (.seg 8 (.eff 9 [] (.eff 10 [] (.seg 11 .last)))))))))))))] Tryz.func25 rfl (by kernel_rfl) rfl rfl rfl rfl (by kernel_rfl) ?_
  simp [Nat.add_assoc]
  have hM1 : OwnS ((H.set nx (some ⟨.c 65, 1, [[.ptr nS 8 0 0]]⟩)).set (nx + 1) (some ⟨.c 31, 2, [[.d (.lit (.int .i64 0)), .d (.lit (.int .i64 0))]]⟩)) lo A s := (hO.set_low _ fun x hx => by have := n1 x hx; omega).set_low _ fun x hx => by have := n1 x hx; omega
  have hM2 : ∀ i, i < nx → ((H.set nx (some ⟨.c 65, 1, [[.ptr nS 8 0 0]]⟩)).set (nx + 1) (some ⟨.c 31, 2, [[.d (.lit (.int .i64 0)), .d (.lit (.int .i64 0))]]⟩)) i = H i := fun i hi => by rw [Hp.set_ne _ _ (by omega), Hp.set_ne _ _ (by omega)]
  have hM3 : HSol ((H.set nx (some ⟨.c 65, 1, [[.ptr nS 8 0 0]]⟩)).set (nx + 1) (some ⟨.c 31, 2, [[.d (.lit (.int .i64 0)), .d (.lit (.int .i64 0))]]⟩)) := HSol.set (HSol.set hSol (by simp)) (by simp)
  have hM5 : ((H.set nx (some ⟨.c 65, 1, [[.ptr nS 8 0 0]]⟩)).set (nx + 1) (some ⟨.c 31, 2, [[.d (.lit (.int .i64 0)), .d (.lit (.int .i64 0))]]⟩)) nx = some ⟨.c 65, 1, [[.ptr nS 8 0 0]]⟩ := by simp
  have hM6 : ((H.set nx (some ⟨.c 65, 1, [[.ptr nS 8 0 0]]⟩)).set (nx + 1) (some ⟨.c 31, 2, [[.d (.lit (.int .i64 0)), .d (.lit (.int .i64 0))]]⟩)) (nx + 1) = some ⟨.c 31, 2, [[.d (.lit (.int .i64 0)), .d (.lit (.int .i64 0))]]⟩ := by simp
  generalize ((H.set nx (some ⟨.c 65, 1, [[.ptr nS 8 0 0]]⟩)).set (nx + 1) (some ⟨.c 31, 2, [[.d (.lit (.int .i64 0)), .d (.lit (.int .i64 0))]]⟩)) = M at *
  have hsub : ∀ i y, H i = some y → M i = some y := fun i y hy => by rw [hM2 i (fresh_lt hfr hy)]; exact hy
  have hsub1 : ∀ (B : Blk) i y, H i = some y → (M.set (nx + 1) (some B)) i = some y := fun B i y hy => by rw [Hp.set_ne _ _ (by have := fresh_lt hfr hy; omega)]; exact hsub i y hy
  by_cases hc : call < 0 ∨ 16 ≤ call
  · have e : callW s call args = (s, nilG, 0) := by unfold callW; rw [if_pos hc]
    rw [e] at hK
    refine cform_no call hc ?_
    simp [hM6]
    exact ⟨HSol.set hM3 (by simp), H, hsub1 _, hK.bad (by simp) _ (by omega)⟩
  obtain ⟨c, rfl⟩ : ∃ c : Nat, call = c := ⟨call.toNat, by omega⟩
  have hc16 : c < 16 := by omega
  refine cform_ok c hc16 ?_
  have hf3 : (formB c).length ≤ 3 := by
    have : c = 0 ∨ c = 1 ∨ c = 2 ∨ c = 3 ∨ c = 4 ∨ c = 5 ∨ c = 6 ∨ c = 7 ∨ c = 8 ∨ c = 9 ∨ c = 10 ∨ c = 11 ∨ c = 12 ∨ c = 13 ∨ c = 14 ∨ c = 15 := by omega
    rcases this with rfl | rfl | rfl | rfl | rfl | rfl | rfl | rfl | rfl | rfl | rfl | rfl | rfl | rfl | rfl | rfl <;> decide
  have hsz : (⟨(formB c).toArray⟩ : ByteArray).size = (formB c).length := by simp [ByteArray.size]
  by_cases hl : args.length = (formB c).length
  case neg =>
    have e : callW s c args = (s, nilG, 7) := by unfold callW; rw [if_neg hc, if_pos (by simpa using hl)]
    rw [e] at hK
    have hl' : ¬ (args.length : Int) = ((formB c).length : Int) := by omega
    simp [hM6, hl, hl', hsz]
    intros
    exact ⟨HSol.set hM3 (by simp), H, hsub1 _, hK.bad (by simp) _ (by omega)⟩
  obtain ⟨f, hfm⟩ : ∃ f, f = formB c := ⟨_, rfl⟩
  rw [← hfm] at hl hf3 hsz ⊢
  simp [hl, hsz]
  intro _
  refine loopH_ok (ks := [0,1,2,3,6,7,8,9,10,11,12,18,22,29,30,31,32,42,45,46,55,66,74,84,99,104,116,123,130]) (pl := [(9, [0,0,0,6,0,31,63], (.seg 0 (.seg 1 (.seg 2 (.seg 3 (.seg 4 (.eff 5 [] (.seg 6 .last)))))))), (14, [0,0,2,6,15,31,31,127,255], (.seg 0 (.seg 1 (.seg 2 (.seg 3 (.eff 4 [] (.seg 5 (.seg 6 (.eff 7 [] (.seg 8 .last)))))))))), (16, [0,0,0,4,12,30,63,127,127,511,1023], (.seg 0 (.seg 1 (.seg 2 (.seg 3 (.seg 4 (.eff 5 [0] (.eff 6 [] (.seg 7 (.seg 8 (.eff 9 [] (.seg 10 .last)))))))))))), (18, [0,0,2,6,15,31,63,127], (.seg 0 (.seg 1 (.seg 2 (.seg 3 (.eff 4 [] (.seg 5 (.eff 6 [] (.seg 7 .last))))))))), (27, [0,0,2,6,15,31,63,127,255,511,1023,2047], (.seg 0 (.seg 1 (.seg 2 (.seg 3 (.eff 4 [] (.seg 5 (.seg 6 (.seg 7 (.seg 8 (.eff 9 [] (.eff 10 [] (.seg 11 .last)))))))))))))]) (n0 := 140) (α := {x : HcS // HcI M (nx + 2) s args f x}) (fun x => [(31, dI x.1.k)]) (fun _ x => x.1.H) (fun x => x.1.nx) (fun x => args.length - x.1.k) ⟨⟨0, M, nx + 2⟩, ⟨Nat.zero_le _, Nat.le_refl _, fun _ _ => rfl, hM3, fun i h => absurd h (Nat.not_lt_zero _)⟩⟩ rfl (by kernel_rfl) (Wk.sub (by simp)) ?_
  rintro ⟨⟨k, H2, nx2⟩, hI⟩
  obtain ⟨hk, hn, hlow, hsol, hall⟩ := hI
  simp only at hk hn hlow hsol hall
  have q5 : H2 nx = some ⟨.c 65, 1, [[.ptr nS 8 0 0]]⟩ := by rw [hlow nx (by omega)]; exact hM5
  have q6 : H2 (nx + 1) = some ⟨.c 31, 2, [[.d (.lit (.int .i64 0)), .d (.lit (.int .i64 0))]]⟩ := by rw [hlow (nx + 1) (by omega)]; exact hM6
  have qS : H2 nS = some (stB A s) := by rw [hlow nS (by omega), hM2 nS pS]; exact hS
  have qO : OwnS H2 lo A s := hM1.low fun x hx => hlow _ (by have := n1 x hx; omega)
  have qsub : ∀ i y, H i = some y → H2 i = some y := fun i y hy => by rw [hlow i (by have := fresh_lt hfr hy; omega)]; exact hsub i y hy
  have qsub1 : ∀ (B : Blk) i y, H i = some y → (H2.set (nx + 1) (some B)) i = some y := fun B i y hy => by rw [Hp.set_ne _ _ (by have := fresh_lt hfr hy; omega)]; exact qsub i y hy
  by_cases h1 : k < f.length
  · have h1' : (k : Int) < (f.length : Int) := by omega
    have h2 : k < args.length := by omega
    have d1 : ¬ nx = nx2 := by omega
    have d2 : ¬ nx + 1 = nx2 := by omega
    have d3 : ¬ nS = nx2 := by omega
    simp [h1, h1', h2, q5, d1, d2]
    have solV : HSol (H2.set nx2 (some ⟨.c 31, 2, [[.d (eI args[k].kind), .d (eI args[k].n)]]⟩)) := hsol.set (by simp)
    have oV : OwnS (H2.set nx2 (some ⟨.c 31, 2, [[.d (eI args[k].kind), .d (eI args[k].n)]]⟩)) lo A s := qO.set_low _ fun x hx => by have := n1 x hx; omega
    have sV : (H2.set nx2 (some ⟨.c 31, 2, [[.d (eI args[k].kind), .d (eI args[k].n)]]⟩)) nS = some (stB A s) := by rw [Hp.set_ne _ _ d3]; exact qS
    refine ICall.lendL (es := [hpD true s, .one (.d (.lit (.int .u8 f[k].toNat))), aD (eVal args[k])]) ⟨heap_shw oV sV, ⟨_, rfl, .d rfl⟩, val_shw _, trivial⟩ (heapFits_ok s f[k] args[k] ⟨by simp, ?_⟩)
    have ea : argB s (f.getD k 0) (valAt args k) = argB s f[k] args[k] := by simp [valAt, List.getD_eq_getElem?_getD, h1, h2]
    cases hb : argB s f[k] args[k] with
    | false =>
      have e : callW s c args = (s, nilG, 0) := by
        unfold callW
        rw [if_neg hc, Int.toNat_natCast, ← hfm, if_neg (by omega), if_pos ?_]
        rw [Bool.eq_false_iff]
        intro h
        have := (argsB_all hl).1 h k h2
        rw [ea, hb] at this
        cases this
      rw [e] at hK
      simp [q6, d2]
      exact ⟨HSol.set solV (by simp), H, fun i y hy => by rw [Hp.set_ne _ _ (by have := fresh_lt hfr hy; omega), Hp.set_ne _ _ (by have := fresh_lt hfr hy; omega)]; exact qsub i y hy, hK.bad (by simp) _ (by omega)⟩
    | true =>
      simp
      exact ⟨⟨k + 1, H2.set nx2 (some ⟨.c 31, 2, [[.d (eI args[k].kind), .d (eI args[k].n)]]⟩), nx2 + 1⟩, by simp only; omega, ⟨by simp only; omega, by simp only; omega, fun i hi => by simp only; rw [Hp.set_ne _ _ (by omega)]; exact hlow i hi, solV, fun i hi => by
        simp only at hi
        by_cases hik : i = k
        · subst hik; rw [ea]; exact hb
        · exact hall i (by omega)⟩, Wk.sub (by simp [wrap_add (show k < 9223372036854775807 by omega)])⟩
  have hk1 : k = args.length := by omega
  have hab : argsB s f args = true := (argsB_all hl).2 fun i hi => hall i (by omega)
  have e : callW s c args = callR s c args := by rw [hfm] at hl hab; exact callW_at hc16 hl hab
  rw [e] at hK
  have h1' : ¬ (k : Int) < (f.length : Int) := by omega
  have fin : ∀ (H3 : Hp) (nx3 : Nat) (A3 : Ad → Nat) (B : Blk), newRs B.es → nx2 ≤ nx3 → (∀ q, q < nx2 → (∀ x, Live s x → q ≠ A x) → q ≠ nS → H3 q = H2 q) → (∀ q, nx3 ≤ q → H3 q = none) → HSol H3 → OwnS H3 lo A3 (callR s c args).1 → H3 nS = some (stB A3 (callR s c args).1) → (∀ x, Live (callR s c args).1 x → (∃ y, Live s y ∧ A3 x = A y) ∨ nx2 ≤ A3 x) → (callR s c args).2.2 = -1 →
      HSol (H3.set (nx + 1) (some B)) ∧ cutK K (.tup [aD (eVal (callR s c args).2.1), dI (-1)]) (H3.set (nx + 1) (some B)) nx3 := by
    intro H3 nx3 A3 B hB g1 g2 g3 g4 g5 g6 g7 g8
    have hA : ∀ x, Live (callR s c args).1 x → A3 x ≠ nx + 1 := fun x hx => by
      rcases g7 x hx with ⟨y, hy, e⟩ | e
      · have := n1 y hy; omega
      · omega
    have g9 : HSol (H3.set (nx + 1) (some B)) := HSol.set g4 hB.sol
    refine ⟨g9, _, fun _ _ h => h, hK.ok g8 _ nx3 A3 (by omega) (fun q h1 h2 h3 => ?_) (fun q hq => ?_) g9 (g5.set_low _ hA) ?_ fun x hx => ?_⟩
    · rw [Hp.set_ne _ _ (by omega), g2 q (by omega) h2 h3, hlow q (by omega), hM2 q h1]
    · rw [Hp.set_ne _ _ (by omega)]; exact g3 q hq
    · rw [Hp.set_ne _ _ (by omega)]; exact g6
    · rcases g7 x hx with h | h
      · exact .inl h
      · exact .inr (by omega)
  have hc3 : c = 0 ∨ c = 1 ∨ c = 2 := by omega
  rcases hc3 with rfl | rfl | rfl
  · obtain ⟨a, rfl⟩ : ∃ a, args = [a] := List.length_eq_one_iff.1 (by rw [hl, hfm]; rfl)
    subst hfm
    simp only [callR, valAt, List.getD_cons_zero] at hK fin
    simp only [formB, List.length_cons, List.length_nil] at *
    obtain rfl : k = 1 := by omega
    simp [q5]
    refine ICall.lendL (es := [hpD true s, aD (eVal a)]) ⟨heap_shw qO qS, val_shw _, trivial⟩ (heapLong_ok s a (hf a (by simp)) ⟨by simp, ?_⟩)
    rcases long_or s a with e2 | ⟨w, e2⟩
    · rw [e2] at hK ⊢
      simp [q6]
      exact ⟨HSol.set hsol (by simp), H, qsub1 _, hK.bad (by simp) _ (by omega)⟩
    · rw [e2] at hK ⊢
      simp [q6]
      exact ⟨HSol.set hsol (by simp), H, qsub1 _, hK.same hfr hSol hO hS _ (by omega)⟩
  · obtain ⟨a, v, rfl⟩ : ∃ a v, args = [a, v] := len_two (by rw [hl, hfm]; rfl)
    subst hfm
    simp only [callR, valAt, List.getD_cons_zero, List.getD_cons_succ] at hK fin
    simp only [formB, List.length_cons, List.length_nil] at *
    obtain rfl : k = 2 := by omega
    have ha : namesB s a 2 = true := by
      simp [argsB, formB] at hab
      exact argB_l ▸ hab.1
    simp [q5]
    refine push_ic hq S a v ha hsol qO qS hSn (by omega) ⟨fun he nx3 hn3 => ?_, fun he H3 nx3 A3 hn3 low3 high3 sol3 O3 S3 lv3 => ?_⟩
    · simp [q6]
      exact ⟨HSol.set hsol (by simp), H, qsub1 _, hK.bad he _ (by omega)⟩
    · have r6 : H3 (nx + 1) = some ⟨.c 31, 2, [[.d (.lit (.int .i64 0)), .d (.lit (.int .i64 0))]]⟩ := by rw [low3 _ (by omega) (fun x hx => by have := n1 x hx; omega) (by omega)]; exact q6
      simp [r6]
      exact fin H3 nx3 A3 _ (by simp [newRs]) hn3 low3 high3 sol3 O3 S3 lv3 he
  · obtain ⟨a, rfl⟩ : ∃ a, args = [a] := List.length_eq_one_iff.1 (by rw [hl, hfm]; rfl)
    subst hfm
    simp only [callR, valAt, List.getD_cons_zero] at hK fin
    simp only [formB, List.length_cons, List.length_nil] at *
    obtain rfl : k = 1 := by omega
    have ha : namesB s a 2 = true := by
      simp [argsB, formB] at hab
      exact argB_l ▸ hab
    simp [q5]
    refine pop_ic hq S a ha hsol qO qS hSn (by omega) ⟨fun he nx3 hn3 => ?_, fun he H3 nx3 A3 hn3 low3 high3 sol3 O3 S3 lv3 => ?_⟩
    · simp [q6]
      exact ⟨HSol.set hsol (by simp), H, qsub1 _, hK.bad he _ (by omega)⟩
    · have r6 : H3 (nx + 1) = some ⟨.c 31, 2, [[.d (.lit (.int .i64 0)), .d (.lit (.int .i64 0))]]⟩ := by rw [low3 _ (by omega) (fun x hx => by have := n1 x hx; omega) (by omega)]; exact q6
      simp [r6]
      exact fin H3 nx3 A3 _ (by simp [newRs]) hn3 low3 high3 sol3 O3 S3 lv3 he
theorem wrapU (n : Int) : 0 ≤ IntKind.u64.wrap n ∧ IntKind.u64.wrap n < 18446744073709551616 := by
  have e : IntKind.u64.wrap n = n % 18446744073709551616 := rfl
  omega
theorem fits_kind {s : GState} {v : GVal} (h : fitsB s v = true) : 0 ≤ v.kind ∧ v.kind ≤ 6 ∧ (v.kind = 2 → InI v.n) ∧ (v.kind = 1 → v.n = 0 ∨ v.n = 1) := by
  simp only [fitsB, Bool.and_eq_true] at h
  have h1 := h.1
  unfold rightB at h1
  by_cases e0 : v.kind = 0
  · exact ⟨by omega, by omega, fun e => by omega, fun e => by omega⟩
  rw [if_neg e0] at h1
  by_cases e1 : v.kind = 1
  · rw [if_pos e1] at h1
    simp at h1
    exact ⟨by omega, by omega, fun e => by omega, fun e => by omega⟩
  rw [if_neg e1] at h1
  by_cases e2 : v.kind = 2
  · rw [if_pos e2] at h1
    simp at h1
    refine ⟨by omega, by omega, fun e => ?_, fun e => by omega⟩
    unfold InI
    omega
  rw [if_neg e2] at h1
  by_cases e3 : v.kind = 3
  · exact ⟨by omega, by omega, fun e => by omega, fun e => by omega⟩
  rw [if_neg e3] at h1
  by_cases e4 : v.kind = 4 ∨ v.kind = 5
  · exact ⟨by omega, by omega, fun e => by omega, fun e => by omega⟩
  rw [if_neg e4] at h1
  by_cases e6 : v.kind = 6
  · exact ⟨by omega, by omega, fun e => by omega, fun e => by omega⟩
  rw [if_neg e6] at h1
  cases h1
theorem kindW_in {s : GState} {v : GVal} (h : fitsB s v = true) : 8 ≤ kindW s v ∧ kindW s v ≤ 18 := by
  have := fits_kind h
  unfold kindW
  split
  · split
    · omega
    · split
      · omega
      · split
        · omega
        · split
          · omega
          · split
            · omega
            · split <;> omega
  · split <;> omega
theorem texts_len {s : GState} (h : cellsQ wordsT s = 0) : 19 ≤ s.texts.length := by
  obtain ⟨-, -, h3, -⟩ := cellsQ_iff.1 h
  simp only [wordsB, Bool.and_eq_true, decide_eq_true_eq] at h3
  have := congrArg List.length h3.1
  rw [List.length_take] at this
  have hw : 19 ≤ wordsT.length := by decide
  omega
theorem txt_len {s : GState} (h : cellsQ wordsT s = 0) {t : ByteArray} (ht : t ∈ s.texts) : t.size ≤ 200 := by
  obtain ⟨h1, -⟩ := cellsQ_iff.1 h
  simp only [heapLarge, Bool.or_eq_false_iff, List.any_eq_false, decide_eq_true_eq, decide_eq_false_iff_not] at h1
  have := h1.1.2 t ht
  omega
theorem heapText_ok (s : GState) (hq : cellsQ wordsT s = 0) (v : GVal) (hv : fitsB s v = true) {K : D → List Blk → Prop} (h : K (dS (textW s v)) []) : DPure Tryz.prog 46 [hpD true s, aD (eVal v)] K := by
  obtain ⟨g1, g2, g3, g4⟩ := fits_kind hv
  have g5 := kindW_in hv
  have g6 := texts_len hq
  have g7 := cells_text hv
  obtain ⟨k, n⟩ := v
  simp only at g1 g2 g3 g4 g7
  refine fn_ok [0,1,2,3,4,5,7,8,10,16,21,34] [(12, [0,1,3,7,15,0,32,127,255,511], (.seg 0 (.seg 1 (.seg 2 (.seg 3 (.seg 4 (.seg 5 (.seg 6 (.seg 7 (.seg 8 (.seg 9 .last))))))))))), (13, [0,1,3,7,15,0,0,96,255,511,1023,2047,4095], (.seg 0 (.seg 1 (.seg 2 (.seg 3 (.seg 4 (.seg 5 (.seg 6 (.eff 7 [0, 1, 2, 3, 4] (.seg 8 (.seg 9 (.seg 10 (.seg 11 (.seg 12 .last))))))))))))))] Tryz.func46 rfl (by kernel_rfl) rfl rfl rfl rfl (by kernel_rfl) ?_
  simp
  by_cases c0 : k = 0
  · subst c0
    simp [textW] at h ⊢
    exact h
  by_cases c1 : k = 1
  · subst c1
    simp [textW] at h ⊢
    refine fmtBool_ok _ ?_
    simp
    by_cases n1 : n = 1
    · simp [n1] at h ⊢; exact h
    · simp [n1] at h ⊢; exact h
  by_cases c2 : k = 2
  · subst c2
    simp [textW] at h ⊢
    refine itoa_ok n (g3 rfl) ?_
    simp
    exact h
  by_cases c3 : k = 3
  · subst c3
    simp [textW] at h ⊢
    obtain ⟨w1, w2⟩ := wrapU n
    obtain ⟨m, hm⟩ : ∃ m : Nat, IntKind.u64.wrap n = m := ⟨(IntKind.u64.wrap n).toNat, by omega⟩
    rw [hm] at h w2 ⊢
    simp only [Int.toNat_natCast] at h
    refine fmtUint_ok m (by omega) ?_
    obtain ⟨p1, p2⟩ := hex_pad 15 m (by omega)
    have p3 : 0 < (hexD m).length := by
      rw [hexD]
      split <;> simp
    have hz : (⟨(hexD m).toArray⟩ : ByteArray).size = (hexD m).length := by simp [ByteArray.size]
    generalize hexD m = hd at *
    have hw : IntKind.i64.wrap (16 - (hd.length : Int)) = ((16 - hd.length : Nat) : Int) := by rw [wrap_id (by omega) (by omega)]; omega
    simp [hz, hw]
    refine repeat_ok (16 - hd.length) (by omega) ?_
    simp
    rw [← p2] at h
    have z1 : (⟨#[35]⟩ : ByteArray).size = 1 := rfl
    have z2 : (⟨Array.replicate (16 - hd.length) 48⟩ : ByteArray).size = 16 - hd.length := by simp [ByteArray.size]
    have z3 : 1 + (16 - hd.length) ≤ 9223372036854775807 := by omega
    have z4 : 1 + (16 - hd.length) + hd.length ≤ 9223372036854775807 := by omega
    simp [ByteArray.size_append, hz, z1, z2, z3, z4]
    have e : ((⟨#[35]⟩ ++ ⟨Array.replicate (16 - hd.length) 48⟩ : ByteArray) ++ ⟨hd.toArray⟩) = ⟨(35 :: (List.replicate (15 + 1 - hd.length) 48 ++ hd)).toArray⟩ := by
      apply ByteArray.ext
      simp [ByteArray.data_append]
    rw [e]
    exact h
  by_cases c4 : k = 4
  · subst c4
    have hr := g7 rfl
    have hl : n.toNat < s.texts.length := by omega
    have e : s.texts.getD n.toNat ByteArray.empty = s.texts[n.toNat] := by simp [List.getD_eq_getElem?_getD, hl]
    simp only [textW] at h
    simp at h
    rw [List.getElem?_eq_getElem hl, Option.getD_some] at h
    simp [hr.1, hr.2]
    exact h
  · simp [c0, c1, c2, c3, c4]
    refine ⟨[hpD true s, aD (eVal ⟨k, n⟩)], ⟨⟨⟨_, rfl, .d (by simp)⟩, trivial⟩, val_shw ⟨k, n⟩, trivial⟩, heapKind_ok true s ⟨k, n⟩ (fits_ref hv) (by simp only; omega) ⟨by simp, ?_⟩⟩
    have hl : (kindW s ⟨k, n⟩).toNat < s.texts.length := by omega
    have q1 : 0 ≤ kindW s ⟨k, n⟩ := by omega
    have q2 : kindW s ⟨k, n⟩ < (s.texts.length : Int) := by omega
    rw [textW, if_neg c0, if_neg c1, if_neg c2, if_neg c3, if_neg c4, List.getD_eq_getElem?_getD, List.getElem?_eq_getElem hl, Option.getD_some] at h
    generalize kindW s ⟨k, n⟩ = q at *
    simp [q1, q2]
    have hsz : s.texts[q.toNat].size ≤ 200 := txt_len hq (List.getElem_mem hl)
    generalize s.texts[q.toNat] = T at *
    have z1 : (⟨#[91]⟩ : ByteArray).size = 1 := rfl
    have z2 : (⟨#[93]⟩ : ByteArray).size = 1 := rfl
    have z3 : 1 + T.size ≤ 9223372036854775807 := by omega
    have z4 : 1 + T.size + 1 ≤ 9223372036854775807 := by omega
    simp [ByteArray.size_append, z1, z2, z3, z4]
    exact h
def DsMx (H : Hp) : List D → List D → Prop
  | [], [] => True
  | d :: ds, e :: es => (DShw H (fun _ => True) d e ∨ ∃ x, d = .one (.d x) ∧ e = d) ∧ DsMx H ds es
  | _, _ => False
theorem DsMx.rvs {F B : Nat → Prop} {w : World} {ι : Nms} {H : Hp} (hh : ∀ n x, H n = some x → RB ⟨F, B⟩ w ι n x) (hB : ∀ b, B b → b < w.heap.size) : ∀ {ds es : List D}, DsMx H ds es → ∀ {vs : List Value}, RVs ⟨F, B⟩ w ι ds vs → RVs ⟨giv F ι H (fun _ => True), fun b => b < w.heap.size⟩ w (fun _ => none) es vs
  | [], [], _, [], _ => by rw [RVs]; trivial
  | d :: ds, e :: es, h, v :: vs, hv => by
    rw [DsMx] at h
    rw [RVs] at hv ⊢
    refine ⟨?_, DsMx.rvs hh hB h.2 hv.2⟩
    rcases h.1 with h1 | ⟨x, rfl, rfl⟩
    · exact RV.keep (show Env.le ⟨giv F ι H (fun _ => True), Go.Proofs.YtbphdcffpobcbaaGreatDoor.noB⟩ ⟨giv F ι H (fun _ => True), fun b => b < w.heap.size⟩ w w from ⟨fun _ h => h, fun _ h => h.elim, fun _ _ => rfl, fun _ _ => rfl⟩) (Nms.le_refl _) (DShw.rv (ι' := fun _ => none) hh h1 hv.1)
    · have h2 := hv.1
      rw [RV] at h2 ⊢
      rw [RC] at h2 ⊢
      exact RD.keep h2 (show Env.le ⟨F, B⟩ ⟨giv F ι H (fun _ => True), fun b => b < w.heap.size⟩ w w from ⟨fun _ h => .inl h, hB, fun _ _ => rfl, fun _ _ => rfl⟩)
  | [], _ :: _, h, _, _ => h.elim
  | _ :: _, [], h, _, _ => h.elim
  | [], [], _, _ :: _, hv => by simp [RVs] at hv
  | _ :: _, _ :: _, _, [], hv => by simp [RVs] at hv
theorem ICall.lendM {P : Program} {f : FuncId} {ds es : List D} {H : Hp} {nx : Nat} {K : D → Hp → Nat → Prop} (hd : DsMx H ds es) (h : DPure P f es fun d _ => d.litD ∧ K d H nx) : ICall P f ds H nx K :=
  ⟨h.1, fun β F ι w vs hg hH hvs => by
    have hF1 : ∀ b, giv F ι H (fun _ => True) b → b < w.heap.size := fun b hb => by
      rcases hb with hb | ⟨n, cap, -, g1, g2, g3⟩
      · exact hH.Flt b hb
      · exact (hH.own n b cap g1 g2 g3).1
    have hgl : GlOk (giv F ι H (fun _ => True)) w := fun g arr hm => by
      obtain ⟨a1, a2⟩ := hH.gl hg g arr hm
      exact ⟨.inl a1, a2⟩
    refine (h.2 (giv F ι H (fun _ => True)) w vs hF1 hgl (DsMx.rvs hH.blk (fun b hb => Nat.lt_of_lt_of_le hb.1 hH.size) hd hvs)).mono fun _ w' ⟨F', ι', d, fr, v, e1, ho, e2, e3⟩ => ?_
    have ho2 : Out F w w' F (fun _ => none) .top [] v := ⟨ho.size, ho.old, fun b hb => hb, fun b hb => ⟨.inl hb, Nat.lt_of_lt_of_le (hH.Flt b hb) ho.size⟩, fun i x hx => by simp at hx, fun i b cap hi => by simp at hi, fun i j b c c' hi => by simp at hi, fun _ _ => rfl, by rw [RV]; trivial, ho.io⟩
    have hh : Holds β F ι ⟨0, [], H, nx⟩ ⟨#[], []⟩ w := ⟨hg, rfl, rfl, fun t => by rw [show lk [] t = D.top from rfl, RV]; trivial, hH⟩
    obtain ⟨ι2, g1, g2, g3⟩ := hh.out ho2
    have hle : Env.le ⟨F, β.B⟩ ⟨F, β.B⟩ w w' := ⟨fun _ h => h, fun _ h => h, fun b hb => ho.old b (hH.Flt b hb), fun b hb => ho.old b (Nat.lt_of_lt_of_le hb.1 hH.size)⟩
    have g4 : HpOk β F w' ι2 H nx := by simpa [St.adds, addsH] using g1.heap
    exact ⟨F, ι2, H, nx, d, v, e1, g4, hle, g3, ho.val.litD e2, e3⟩⟩
def HcOk (call : Int) : Prop := ∀ {H : Hp} {lo nx nS : Nat} {A : Ad → Nat} {s : GState} (_ : cellsQ wordsT s = 0) (_ : OkW s) (S : Bool) (args : List GVal) (_ : ∀ v ∈ args, fitsB s v = true) (_ : HSol H) (_ : OwnS H lo A s) (_ : H nS = some (stB A s)) (_ : ∀ x, Live s x → A x ≠ nS) (_ : lo ≤ nx) {K : D → Hp → Nat → Prop} (_ : CallK H nx lo nS A s (callW s call args) K),
    ICall Tryz.prog 25 [hpO nS, dI call, dL S (args.map eVal)] H nx K
theorem hcA {call : Int} (h : call = 0 ∨ call = 1 ∨ call = 2) : HcOk call := fun hq _ S args hf hSol hO hS hSn hlo _ hK => heapCallA_ic hq S call h args hf hSol hO hS hSn hlo hK
theorem askedD_ic {s : GState} (hs : okSt s) (S : Bool) (l : List GVal) {H : Hp} {nx n : Nat} (hn : H n = some ⟨.c 29, 8, [(eState s).map .d]⟩) {K : D → Hp → Nat → Prop} (h : K (dB (askC s l)) H nx) :
    ICall Tryz.prog 23 [.one (.ptr n 8 0 0), dL S (l.map eVal)] H nx K :=
  ICall.lendM (es := [pS true s, dL S (l.map eVal)]) ⟨.inl ⟨_, rfl, CsS.atP hn trivial (CsS.dat (by simp))⟩, .inr ⟨_, rfl, rfl⟩, trivial⟩ (asked_ok S S s hs l ⟨by simp, h⟩)
theorem callC_ok2 {call : Int} (hc : HcOk call) (s : GState) (hw : OkW s) (S : Bool) (args : List GVal) {K : D → List Blk → Prop} (h : K (.tup [aD (eState (callC s call args).1), aD (eVal (callC s call args).2.1), dI (callC s call args).2.2]) []) : DPure Tryz.prog 6 [aD (eState s), dI call, dL S (args.map eVal)] K := by
  refine DPure.ofI ?_
  have bad : ∀ (X : Hp) (e : Int), HSol X → K (.tup [aD (eState emptyS), aD (eVal nilG), dI e]) [] → HSol X ∧ ∃ d', DShw X (fun _ => True) (.tup [.agg [.d .emp, .d .emp, .d .emp, .d .emp, .d .emp, .d .emp, .d (eI 0), .d (eI 0)], .agg [.d (eI 0), .d (eI 0)], dI e]) d' ∧ K d' [] := fun X e hx hk => ⟨hx, .tup [aD (eState emptyS), aD (eVal nilG), dI e], ⟨empty_shw, val_shw nilG, ⟨_, rfl, .d rfl⟩, trivial⟩, hk⟩
  refine fni_ok [0,1,2,3,6,7,8,9,10,13,26] [(7, [0,0,1,7,15], (.seg 0 (.seg 1 (.eff 2 [1] (.eff 3 [] (.seg 4 .last))))))] Tryz.func6 rfl (by kernel_rfl) rfl rfl rfl rfl (by kernel_rfl) ?_
  simp
  refine askedD_ic hw.ok S args (by simp) ?_
  unfold callC at h
  by_cases c1 : askC s args = true
  case neg =>
    rw [Bool.not_eq_true] at c1
    rw [if_neg (by rw [c1]; decide)] at h
    simp [c1]
    refine bad _ _ ?_ h
    repeat' (first | exact HSol.nil | exact HSol.zero | refine HSol.set ?_ ?_ | (simp; done))
  rw [if_pos c1] at h
  obtain ⟨hq, hf⟩ := askC_iff.1 c1
  simp [c1]
  refine copyOM_ic s (sizedM_of hq hw) ?_ (fun H1 A n1 hn1 low1 high1 sol1 hO => ?_)
  · repeat' (first | exact HSol.nil | exact HSol.zero | refine HSol.set ?_ ?_ | (simp; done))
  have g0 : H1 0 = some ⟨.c 29, 8, [(eState s).map .d]⟩ := by rw [low1 _ (by omega)]; simp [Hp.set]
  have g4 : H1 1 = some ⟨.c 29, 8, [[.d .emp, .d .emp, .d .emp, .d .emp, .d .emp, .d .emp, .d (eI 0), .d (eI 0)]]⟩ := by rw [low1 _ (by omega)]; simp [Hp.set]
  have g5 : H1 2 = some ⟨.c 31, 2, [[.d (eI 0), .d (eI 0)]]⟩ := by rw [low1 _ (by omega)]; simp [Hp.set]
  clear low1
  have hn0 : ∀ x, Live s x → A x ≠ 0 := fun x hx => by have := hO.lo x hx; omega
  have O1 := hO.set_low (some (stB A s)) hn0
  have hS1 : (H1.set 0 (some (stB A s))) 0 = some (stB A s) := Hp.set_same _ _ _
  have sol2 : HSol (H1.set 0 (some (stB A s))) := sol1.set (by simp [stB, oRow])
  have k1 : (H1.set 0 (some (stB A s))) 1 = some ⟨.c 29, 8, [[.d .emp, .d .emp, .d .emp, .d .emp, .d .emp, .d .emp, .d (eI 0), .d (eI 0)]]⟩ := by rw [Hp.set_ne _ _ (by omega)]; exact g4
  have k5 : (H1.set 0 (some (stB A s))) 2 = some ⟨.c 31, 2, [[.d (eI 0), .d (eI 0)]]⟩ := by rw [Hp.set_ne _ _ (by omega)]; exact g5
  rw [oRow]
  simp [g0]
  rw [show ([C.own (A Ad.c) 4 s.cells.length, C.own (A Ad.sh) 2 s.shapes.length, C.own (A Ad.tx) 1 s.texts.length, C.own (A Ad.t) 5 s.threads.length, C.own (A Ad.en) 3 s.ends.length, C.own (A Ad.sa) 2 s.said.length, C.d (eI s.asked), C.d (eI s.steps)] : List C) = oRow A s from rfl]
  rw [show (⟨.c 29, 8, [oRow A s]⟩ : Blk) = stB A s from rfl]
  generalize H1.set 0 (some (stB A s)) = M at *
  refine hc hq hw S args hf sol2 O1 hS1 hn0 (by omega) ⟨fun hb nx2 hn2 => ?_, fun hb H2 nx2 A2 hn2 low2 high2 sol3 O2 hS2 hn3 => ?_⟩
  · rw [if_pos hb] at h
    have d0 : ¬ 0 = nx2 := by omega
    have d1 : ¬ 1 = nx2 := by omega
    have d2 : ¬ 2 = nx2 := by omega
    have d3 : ¬ nx2 = 1 := by omega
    have d4 : ¬ nx2 = 2 := by omega
    simp [hb, k1, k5, d0, d1, d2, d3, d4]
    refine bad _ _ ?_ h
    exact HSol.set (HSol.set (HSol.set sol2 (by simp)) (by simp)) (by simp)
  · rw [if_neg (by omega)] at h
    have k2 : H2 1 = some ⟨.c 29, 8, [[.d .emp, .d .emp, .d .emp, .d .emp, .d .emp, .d .emp, .d (eI 0), .d (eI 0)]]⟩ := by rw [low2 1 (by omega) (fun x hx => by have := hO.lo x hx; omega) (by omega)]; exact k1
    have k6 : H2 2 = some ⟨.c 31, 2, [[.d (eI 0), .d (eI 0)]]⟩ := by rw [low2 2 (by omega) (fun x hx => by have := hO.lo x hx; omega) (by omega)]; exact k5
    rw [stB, oRow] at hS2
    have d0 : ¬ 0 = nx2 := by omega
    have d1 : ¬ 1 = nx2 := by omega
    have d2 : ¬ 2 = nx2 := by omega
    have d3 : ¬ nx2 = 1 := by omega
    have d4 : ¬ nx2 = 2 := by omega
    have d5 : ¬ nx2 = 0 := by omega
    simp [hS2, k2, k6, d0, d1, d2, d3, d4, d5]
    have l2 : ∀ x, Live (callW s call args).1 x → A2 x < nx2 := fun x hx => O2.lt high2 hx
    have l3 : ∀ x, Live (callW s call args).1 x → 3 ≤ A2 x := fun x hx => O2.lo x hx
    have O3 := ((O2.set_low (n := nx2) (some ⟨.c 31, 2, [[.d (eI (callW s call args).2.1.kind), .d (eI (callW s call args).2.1.n)]]⟩) fun x hx => by have := l2 x hx; omega).set_low (n := 1) (some (stB A2 (callW s call args).1)) fun x hx => by have := l3 x hx; omega).set_low (n := 2) (some ⟨.c 31, 2, [[.d (eI (callW s call args).2.1.kind), .d (eI (callW s call args).2.1.n)]]⟩) fun x hx => by have := l3 x hx; omega
    have sh := CsS.csShw (O3.shw (N := fun _ => True) fun _ _ => trivial)
    have sol4 : HSol (((H2.set nx2 (some ⟨.c 31, 2, [[.d (eI (callW s call args).2.1.kind), .d (eI (callW s call args).2.1.n)]]⟩)).set 1 (some (stB A2 (callW s call args).1))).set 2 (some ⟨.c 31, 2, [[.d (eI (callW s call args).2.1.kind), .d (eI (callW s call args).2.1.n)]]⟩)) := HSol.set (HSol.set (sol3.set (by simp)) (by simp [stB, oRow])) (by simp)
    exact ⟨sol4, .tup [aD (eState (callW s call args).1), aD (eVal (callW s call args).2.1), dI (-1)], ⟨sh, val_shw _, ⟨_, rfl, .d rfl⟩, trivial⟩, hb ▸ h⟩
end Go.Proofs.YtbphdcffpobcbaaGreatDoor
