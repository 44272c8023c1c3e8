/- Several texts in one: RfO. -/
import Derived.Test.YtjbkinmdcaegcaaGreatDoorMg
import Derived.Test.YtjbkinmdcaegcaaGreatDoorMm
import Derived.Test.YtjbkinmdcaegcaaGreatDoorMn
set_option linter.unusedSimpArgs false
set_option linter.unusedVariables false
/- Package state: whatever is handed in, the answers are the document's. -/
namespace Go.Proofs.YtjbkinmdcaegcaaGreatDoor
open Go.RowKit Go
set_option linter.unusedSimpArgs false
structure KO2 where
  k : Nat
  a : Nat
  nx : Nat
theorem DPure.args {P : Program} {f : FuncId} {ds ds' : List D} {K : D → List Blk → Prop} (hle : ∀ E w ι vs, RVs E w ι ds vs → RVs E w ι ds' vs) (h : DPure P f ds' K) : DPure P f ds K := ⟨h.1, fun F w vs h1 hgl h2 => h.2 F w vs h1 hgl (hle _ _ _ _ h2)⟩
def CsLe : List C → List C → Prop
  | [], [] => True
  | c :: cs, e :: es => (e = c ∨ (c = .d .emp ∧ e = .d (.sl true []))) ∧ CsLe cs es
  | _, _ => False
theorem RC.emp_sl {E : Env} {w : World} {ι : Nms} {v : Value} (h : RC E w ι (.d .emp) v) : RC E w ι (.d (.sl true [])) v := RC.less (c := .d .emp) (c' := .d (.sl _ [])) (ι := ι) h (.inr ⟨rfl, _, rfl⟩)
theorem CsLe.rcs {E : Env} {w : World} {ι : Nms} : ∀ {cs es : List C}, CsLe cs es → ∀ {vs : List Value}, RCs E w ι cs vs → RCs E w ι es vs
  | [], [], _, [], _ => trivial
  | c :: cs, e :: es, h, v :: vs, hv => ⟨by
      rcases h.1 with rfl | ⟨rfl, rfl⟩
      · exact hv.1
      · exact hv.1.emp_sl, CsLe.rcs h.2 hv.2⟩
  | [], [], _, _ :: _, hv => hv.elim
  | _ :: _, _ :: _, _, [], hv => hv.elim
  | [], _ :: _, h, _, _ => h.elim
  | _ :: _, [], h, _, _ => h.elim
theorem no_arg {x : D} {cs es : List C} (hc : CsLe cs es) : ∀ E w ι vs, RVs E w ι [x, .agg cs] vs → RVs E w ι [x, .agg es] vs := fun E w ι vs h => by
  match vs, h with
  | [v, u], h =>
    simp only [RVs, and_true] at h ⊢
    refine ⟨h.1, ?_⟩
    have h2 := h.2
    rw [RV] at h2 ⊢
    obtain ⟨xs, e1, e2⟩ := h2
    exact ⟨xs, e1, hc.rcs e2⟩
  | [], h => simp [RVs] at h
  | [_], h => simp [RVs] at h
  | _ :: _ :: _ :: _, h => simp [RVs] at h
theorem emp_arg {x : D} : ∀ E w ι vs, RVs E w ι [x, .one (.d .emp)] vs → RVs E w ι [x, .one (.d (.sl true []))] vs := fun E w ι vs h => by
  match vs, h with
  | [v, u], h =>
    simp only [RVs, and_true] at h ⊢
    refine ⟨h.1, ?_⟩
    have h2 := h.2
    rw [RV] at h2 ⊢
    exact h2.emp_sl
  | [], h => simp [RVs] at h
  | [_], h => simp [RVs] at h
  | _ :: _ :: _ :: _, h => simp [RVs] at h
theorem nats_int (l : List Nat) : nats l = (l.map fun k : Nat => (k : Int)).map fun n => [eI n] := by simp [nats]
set_option maxRecDepth 100000 in
set_option maxHeartbeats 8000000 in
theorem stateSays_ok (p : GProg) (hp : okP p) (s : GState) (hs : okSt s) (o : GState) : DPure Tryz.prog 6 [aD (eProg p), aD (eState s), aD (eState o)] fun d _ => d = dB true := by
  refine fn_ok [0,1,2,3,4,5,6,7,8,9,10,11,12,13,14,30,50,63,66,67,68,76] [(7, [0,0,3,7,15,31,31,127,255,511,1023,1023,4095,1023,1023,32767,65535,131071], (.seg 0 (.seg 1 (.eff 2 [0, 1] (.seg 3 (.seg 4 (.seg 5 (.seg 6 (.seg 7 (.seg 8 (.seg 9 (.seg 10 (.seg 11 (.seg 13 (.seg 14 (.eff 12 [13, 14] (.eff 15 [] (.seg 16 (.seg 17 .last)))))))))))))))))))] Tryz.func6 rfl (by kernel_rfl) rfl rfl rfl rfl (by kernel_rfl) ?_
  simp
  by_cases c1 : checkQ wordsT p = 0
  case neg =>
    refine stStart_ic p hp (fun _ => ?_) (fun e => absurd e c1)
    simp
    refine ready_ok p hp s hs ?_
    simp
    refine progFault_ok p hp ?_
    simp [c1]
    refine DPure.args (no_arg (es := (eState noS).map .d) ⟨.inr ⟨rfl, rfl⟩, .inr ⟨rfl, rfl⟩, .inr ⟨rfl, rfl⟩, .inr ⟨rfl, rfl⟩, .inr ⟨rfl, rfl⟩, .inr ⟨rfl, rfl⟩, .inl rfl, .inl rfl, trivial⟩) ?_
    refine sameStates_ok noS noS ?_
    simp [c1]
    refine ⟨_, rfl, Wk.refl _, ?_⟩; simp [vcC0]
    refine same_ok s o ?_
    simp
    refine sameStates_ok s o ?_
    simp [c1]
    refine stateFault_ok p hp s hs ?_
    simp
    refine ⟨_, rfl, Wk.refl _, ?_⟩; simp [vcC0]
    refine stCheck_ok p hp s hs ?_
    simp
    intro _
    by_cases c2 : stateQ wordsT p s = 0
    · have hq : readyQ p s = readyK s s.threads.length := by rw [readyQ, if_pos c2]
      rw [hq, c2]
      have hst : ∀ t ∈ s.threads, btw t.state 0 4 = true := fun t ht => by
        rw [stateQ_iff] at c2
        exact (thread_iff.1 (List.all_eq_true.1 (state_iff.1 c2.2.2.2).2.2.1 t ht)).2.2.2.1
      refine loopH_ok (ks := [0,1,2,3,4,5,6,7,8,9,10,11,12,13,14,30,50,63,66,67,68,76]) (pl := [(7, [0,0,3,7,15,31,31,127,255,511,1023,1023,4095,1023,1023,32767,65535,131071], (.seg 0 (.seg 1 (.eff 2 [0, 1] (.seg 3 (.seg 4 (.seg 5 (.seg 6 (.seg 7 (.seg 8 (.seg 9 (.seg 10 (.seg 11 (.seg 13 (.seg 14 (.eff 12 [13, 14] (.eff 15 [] (.seg 16 (.seg 17 .last)))))))))))))))))))]) (n0 := 85) (α := {x : KO2 // x.k ≤ s.threads.length ∧ 5 ≤ x.a ∧ x.a < x.nx}) (fun x => [(13, .one (.own x.1.a 1 (readyK s x.1.k).length)), (67, dI x.1.k)]) (fun H x => H.set x.1.a (some ⟨.c 3, 1, nRows (readyK s x.1.k)⟩)) (fun x => x.1.nx) (fun x => s.threads.length - x.1.k) ⟨⟨0, 5, 6⟩, by simp⟩ rfl (by kernel_rfl) ?_ ?_
      · exact (Wk.emp (t := 13) 3 1 rfl).trans (Wk.sub (by simp [readyK]))
      rintro ⟨⟨k, a, nx⟩, hk, ha, hn⟩
      simp only at hk ha hn
      have e0 : ¬ 0 = a := by omega
      have e1 : ¬ 1 = a := by omega
      have e2 : ¬ 2 = a := by omega
      have e3 : ¬ a = nx := by omega
      have e4 : ¬ 1 = nx := by omega
      have hn2 := readyK_next (s := s) (k := k)
      have hlen := readyK_len (s := s) (k := k)
      by_cases h1 : k < s.threads.length
      · obtain ⟨g1, g2⟩ := threads_on c2 h1
        simp [h1, e0, e1, e2, e3, e4]
        refine canGo_ok s k h1 g1 hst ?_
        cases hc : canB s (thrAt s k) with
        | false =>
          rw [hc] at hn2
          simp at hn2
          simp
          refine ⟨⟨k + 1, a, nx⟩, by simp; omega, ⟨by simp; omega, by simp; omega, by simp; omega⟩, ?_⟩
          simp only [hn2]
          exact Wk.sub (by simp [wrap_add (show k < 9223372036854775807 by omega)])
        | true =>
          rw [hc] at hn2
          simp at hn2
          simp [h1, e0, e1, e2, e3, e4]
          refine ⟨fun m b e hb => ?_, by omega, ⟨k + 1, nx + 1, nx + 2⟩, by simp; omega, ⟨by simp; omega, by simp; omega, by simp⟩, (Wk.sub (by simp [hn2, wrap_add (show k < 9223372036854775807 by omega)])).trans (Wk.heap ?_)⟩
          · subst e
            simp [e3] at hb
            subst hb; exact ⟨rfl, rfl⟩
          · simp only [hn2]
            intro i y hy
            unfold Hp.set Hp.none at hy ⊢
            simp at hy ⊢
            grind
      · obtain rfl : k = s.threads.length := by omega
        simp
        have hl : List.map ((fun e => List.map C.dt e) ∘ fun k : Nat => [C.d (eI (k : Int))]) (readyK s s.threads.length) = ((readyK s s.threads.length).map fun k : Nat => (k : Int)).map fun n => [eI n] := by simp
        rw [nats_int, hl]
        refine equalI_ok true false _ _ ?_
        simp
    · have hq : readyQ p s = [] := by rw [readyQ, if_neg c2]
      rw [hq]
      refine loopH_ok (ks := [0,1,2,3,4,5,6,7,8,9,10,11,12,13,14,30,50,63,66,67,68,76]) (pl := [(7, [0,0,3,7,15,31,31,127,255,511,1023,1023,4095,1023,1023,32767,65535,131071], (.seg 0 (.seg 1 (.eff 2 [0, 1] (.seg 3 (.seg 4 (.seg 5 (.seg 6 (.seg 7 (.seg 8 (.seg 9 (.seg 10 (.seg 11 (.seg 13 (.seg 14 (.eff 12 [13, 14] (.eff 15 [] (.seg 16 (.seg 17 .last)))))))))))))))))))]) (n0 := 85) (α := {k : Nat // k ≤ s.threads.length}) (fun x => [(67, dI x.1)]) (fun H _ => H) (fun _ => 5) (fun x => s.threads.length - x.1) ⟨0, by simp⟩ rfl (by kernel_rfl) (Wk.sub (by simp)) ?_
      rintro ⟨k, hk⟩
      by_cases h1 : k < s.threads.length
      · simp [h1, c2]
        exact ⟨k + 1, by omega, by omega, Wk.sub (by simp [wrap_add (show k < 9223372036854775807 by omega)])⟩
      · obtain rfl : k = s.threads.length := by omega
        simp
        refine DPure.args emp_arg ?_
        refine equalI_ok true true [] [] ?_
        simp
  refine stStart_ic p hp (fun e => absurd c1 e) (fun _ => ?_)
  simp
  refine ready_ok p hp s hs ?_
  simp
  refine progFault_ok p hp ?_
  simp [c1]
  refine started_ok p c1 ?_
  simp
  refine sameStates_ok (startS p) (startS p) ?_
  simp
  refine ⟨_, rfl, Wk.refl _, ?_⟩; simp [vcC0]
  refine same_ok s o ?_
  simp
  refine sameStates_ok s o ?_
  simp [c1]
  refine stateFault_ok p hp s hs ?_
  simp
  refine ⟨_, rfl, Wk.refl _, ?_⟩; simp [vcC0]
  refine stCheck_ok p hp s hs ?_
  simp
  intro _
  by_cases c2 : stateQ wordsT p s = 0
  · have hq : readyQ p s = readyK s s.threads.length := by rw [readyQ, if_pos c2]
    rw [hq, c2]
    have hst : ∀ t ∈ s.threads, btw t.state 0 4 = true := fun t ht => by
      rw [stateQ_iff] at c2
      exact (thread_iff.1 (List.all_eq_true.1 (state_iff.1 c2.2.2.2).2.2.1 t ht)).2.2.2.1
    refine loopH_ok (ks := [0,1,2,3,4,5,6,7,8,9,10,11,12,13,14,30,50,63,66,67,68,76]) (pl := [(7, [0,0,3,7,15,31,31,127,255,511,1023,1023,4095,1023,1023,32767,65535,131071], (.seg 0 (.seg 1 (.eff 2 [0, 1] (.seg 3 (.seg 4 (.seg 5 (.seg 6 (.seg 7 (.seg 8 (.seg 9 (.seg 10 (.seg 11 (.seg 13 (.seg 14 (.eff 12 [13, 14] (.eff 15 [] (.seg 16 (.seg 17 .last)))))))))))))))))))]) (n0 := 85) (α := {x : KO2 // x.k ≤ s.threads.length ∧ 5 ≤ x.a ∧ x.a < x.nx}) (fun x => [(13, .one (.own x.1.a 1 (readyK s x.1.k).length)), (67, dI x.1.k)]) (fun H x => H.set x.1.a (some ⟨.c 3, 1, nRows (readyK s x.1.k)⟩)) (fun x => x.1.nx) (fun x => s.threads.length - x.1.k) ⟨⟨0, 5, 6⟩, by simp⟩ rfl (by kernel_rfl) ?_ ?_
    · exact (Wk.emp (t := 13) 3 1 rfl).trans (Wk.sub (by simp [readyK]))
    rintro ⟨⟨k, a, nx⟩, hk, ha, hn⟩
    simp only at hk ha hn
    have e0 : ¬ 0 = a := by omega
    have e1 : ¬ 1 = a := by omega
    have e2 : ¬ 2 = a := by omega
    have e3 : ¬ a = nx := by omega
    have e4 : ¬ 1 = nx := by omega
    have hn2 := readyK_next (s := s) (k := k)
    have hlen := readyK_len (s := s) (k := k)
    by_cases h1 : k < s.threads.length
    · obtain ⟨g1, g2⟩ := threads_on c2 h1
      simp [h1, e0, e1, e2, e3, e4]
      refine canGo_ok s k h1 g1 hst ?_
      cases hc : canB s (thrAt s k) with
      | false =>
        rw [hc] at hn2
        simp at hn2
        simp
        refine ⟨⟨k + 1, a, nx⟩, by simp; omega, ⟨by simp; omega, by simp; omega, by simp; omega⟩, ?_⟩
        simp only [hn2]
        exact Wk.sub (by simp [wrap_add (show k < 9223372036854775807 by omega)])
      | true =>
        rw [hc] at hn2
        simp at hn2
        simp [h1, e0, e1, e2, e3, e4]
        refine ⟨fun m b e hb => ?_, by omega, ⟨k + 1, nx + 1, nx + 2⟩, by simp; omega, ⟨by simp; omega, by simp; omega, by simp⟩, (Wk.sub (by simp [hn2, wrap_add (show k < 9223372036854775807 by omega)])).trans (Wk.heap ?_)⟩
        · subst e
          simp [e3] at hb
          subst hb; exact ⟨rfl, rfl⟩
        · simp only [hn2]
          intro i y hy
          unfold Hp.set Hp.none at hy ⊢
          simp at hy ⊢
          grind
    · obtain rfl : k = s.threads.length := by omega
      simp
      have hl : List.map ((fun e => List.map C.dt e) ∘ fun k : Nat => [C.d (eI (k : Int))]) (readyK s s.threads.length) = ((readyK s s.threads.length).map fun k : Nat => (k : Int)).map fun n => [eI n] := by simp
      rw [nats_int, hl]
      refine equalI_ok true false _ _ ?_
      simp
  · have hq : readyQ p s = [] := by rw [readyQ, if_neg c2]
    rw [hq]
    refine loopH_ok (ks := [0,1,2,3,4,5,6,7,8,9,10,11,12,13,14,30,50,63,66,67,68,76]) (pl := [(7, [0,0,3,7,15,31,31,127,255,511,1023,1023,4095,1023,1023,32767,65535,131071], (.seg 0 (.seg 1 (.eff 2 [0, 1] (.seg 3 (.seg 4 (.seg 5 (.seg 6 (.seg 7 (.seg 8 (.seg 9 (.seg 10 (.seg 11 (.seg 13 (.seg 14 (.eff 12 [13, 14] (.eff 15 [] (.seg 16 (.seg 17 .last)))))))))))))))))))]) (n0 := 85) (α := {k : Nat // k ≤ s.threads.length}) (fun x => [(67, dI x.1)]) (fun H _ => H) (fun _ => 5) (fun x => s.threads.length - x.1) ⟨0, by simp⟩ rfl (by kernel_rfl) (Wk.sub (by simp)) ?_
    rintro ⟨k, hk⟩
    by_cases h1 : k < s.threads.length
    · simp [h1, c2]
      exact ⟨k + 1, by omega, by omega, Wk.sub (by simp [wrap_add (show k < 9223372036854775807 by omega)])⟩
    · obtain rfl : k = s.threads.length := by omega
      simp
      refine DPure.args emp_arg ?_
      refine equalI_ok true true [] [] ?_
      simp
end Go.Proofs.YtjbkinmdcaegcaaGreatDoor
