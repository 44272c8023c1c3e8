/- Several texts in one. -/
import Derived.Test.YtbphdcffpobcbaaGreatDoorMe
import Derived.Test.YtbphdcffpobcbaaGreatDoorMke
import Derived.Test.YtbphdcffpobcbaaGreatDoorMkf
import Derived.Test.YtbphdcffpobcbaaGreatDoorMlb
set_option linter.unusedSimpArgs false
set_option linter.unusedVariables false
set_option maxRecDepth 100000
set_option maxHeartbeats 16000000
namespace Go.Proofs.YtbphdcffpobcbaaGreatDoor
open Go.RowKit Go
@[simp] def ciKs : List Nat := [0,1,2,3,6,7,8,9,10,11,12,13,14,15,16,17,18,20,21,22,23,24,25,46,59,68,69,70,71,82,92,98,111,112,114,130,150,153,176,179,198,204,205,206,207,223,233,240,247,260,273,280,288,296,300,310,322,326,336,353,372,388,393]
@[simp] def ciPl : Pls := [(10, [0,0,0,0,12,28,63,127], (.seg 0 (.seg 1 (.seg 2 (.seg 3 (.seg 4 (.seg 5 (.eff 6 [] (.seg 7 .last))))))))), (32, [0,0,2,0,0,16,48,112,248,511,1023], (.seg 1 (.seg 3 (.seg 4 (.seg 5 (.seg 6 (.fork 0 [1, 5, 6] (.fork 2 [5, 6] (.eff 7 [6] (.eff 8 [] (.eff 9 [] (.eff 10 [] .last)))) (.eff 7 [1] (.fork 2 [] (.eff 8 [] (.eff 9 [] (.eff 10 [] .last))) (.eff 8 [1] (.eff 2 [] (.eff 9 [] (.eff 10 [] .last))))))) (.fork 2 [5, 6] (.fork 0 [5, 6] (.eff 7 [6] (.eff 8 [] (.eff 9 [] (.eff 10 [] .last)))) (.eff 7 [6] (.fork 0 [] (.eff 8 [] (.eff 9 [] (.eff 10 [] .last))) (.eff 8 [] (.eff 0 [] (.eff 9 [] (.eff 10 [] .last))))))) (.eff 7 [1] (.fork 0 [1] (.fork 2 [] (.eff 8 [] (.eff 9 [] (.eff 10 [] .last))) (.eff 8 [1] (.eff 2 [] (.eff 9 [] (.eff 10 [] .last))))) (.fork 2 [] (.fork 0 [] (.eff 8 [] (.eff 9 [] (.eff 10 [] .last))) (.eff 8 [] (.eff 0 [] (.eff 9 [] (.eff 10 [] .last))))) (.eff 8 [1] (.fork 0 [1] (.eff 2 [] (.eff 9 [] (.eff 10 [] .last))) (.eff 2 [] (.eff 0 [] (.eff 9 [] (.eff 10 [] .last))))))))))))))))), (37, [0,0,2,0,0,16,56,127,0,0,512,1792,3840,255,16383,32767], (.seg 0 (.seg 1 (.seg 2 (.seg 3 (.seg 4 (.seg 5 (.seg 6 (.seg 8 (.seg 9 (.seg 10 (.seg 11 (.fork 7 [10, 11] (.fork 12 [] (.eff 13 [] (.eff 14 [] (.seg 15 .last))) (.eff 13 [10, 11] (.eff 12 [] (.eff 14 [] (.seg 15 .last))))) (.eff 12 [0, 1, 2, 5, 6] (.eff 7 [] (.eff 13 [] (.eff 14 [] (.seg 15 .last)))))))))))))))))), (47, [0,0,0,6,15,31,31,31,255,511,1023], (.seg 0 (.seg 1 (.seg 2 (.eff 3 [0] (.eff 4 [0] (.seg 5 (.seg 6 (.seg 7 (.eff 8 [] (.eff 9 [] (.seg 10 .last)))))))))))), (49, [0,0,0,6,14,15,63,127], (.seg 0 (.seg 1 (.seg 2 (.eff 3 [0] (.seg 4 (.eff 5 [4] (.eff 6 [] (.seg 7 .last))))))))), (51, [0,0,2,6,14,31,63,127], (.seg 0 (.seg 1 (.seg 2 (.seg 3 (.eff 4 [0] (.eff 5 [] (.eff 6 [] (.seg 7 .last))))))))), (58, [0,0,2,6,14,31,63,127], (.seg 0 (.seg 1 (.seg 2 (.seg 3 (.eff 4 [0] (.eff 5 [] (.eff 6 [] (.seg 7 .last))))))))), (67, [0,0,3,7,0,16,48,127], (.seg 0 (.seg 1 (.seg 2 (.seg 3 (.seg 4 (.seg 5 (.seg 6 (.seg 7 .last))))))))), (68, [0,0,0,4,14,30,1,127,255], (.seg 0 (.seg 1 (.seg 2 (.seg 3 (.seg 4 (.seg 5 (.eff 6 [3, 4, 5] (.eff 7 [] (.seg 8 .last)))))))))), (76, [0,0,3,7,0,16,48,127], (.seg 0 (.seg 1 (.seg 2 (.seg 3 (.seg 4 (.seg 5 (.seg 6 (.seg 7 .last))))))))), (77, [0,0,0,6,14,0,0,64,224,480,1022,2047,4095], (.seg 0 (.seg 1 (.seg 2 (.seg 3 (.seg 4 (.seg 5 (.seg 6 (.seg 7 (.seg 8 (.seg 9 (.eff 10 [4, 9] (.eff 11 [] (.seg 12 .last)))))))))))))), (80, [0,0,0,6,14,0,32,96,254,511,1023], (.seg 0 (.seg 1 (.seg 2 (.seg 3 (.seg 4 (.seg 5 (.seg 6 (.seg 7 (.eff 8 [4, 7] (.eff 9 [] (.seg 10 .last)))))))))))), (82, [0,0,2,6,0,16,48,126,255,511], (.seg 0 (.seg 1 (.seg 2 (.seg 3 (.seg 4 (.seg 5 (.seg 6 (.eff 7 [3, 6] (.eff 8 [] (.seg 9 .last))))))))))), (87, [0,0,2,7,0,16,0,64,192,496,1008,2047,4095,8191], (.seg 1 (.seg 2 (.seg 4 (.seg 6 (.seg 7 (.fork 0 [1, 2, 4, 7] (.fork 3 [4, 7] (.fork 5 [7] (.eff 8 [] (.seg 9 (.eff 10 [] (.eff 11 [] (.seg 12 (.eff 13 [] .last)))))) (.eff 8 [4] (.eff 5 [] (.seg 9 (.eff 10 [] (.eff 11 [] (.seg 12 (.eff 13 [] .last)))))))) (.fork 5 [1, 2, 7] (.fork 3 [7] (.eff 8 [] (.seg 9 (.eff 10 [] (.eff 11 [] (.seg 12 (.eff 13 [] .last)))))) (.eff 8 [1, 2] (.seg 9 (.fork 3 [9] (.eff 10 [] (.eff 11 [] (.seg 12 (.eff 13 [] .last)))) (.eff 10 [1, 2] (.eff 3 [] (.eff 11 [] (.seg 12 (.eff 13 [] .last))))))))) (.eff 8 [1, 2, 4] (.fork 3 [4] (.eff 5 [] (.seg 9 (.eff 10 [] (.eff 11 [] (.seg 12 (.eff 13 [] .last)))))) (.eff 5 [1, 2] (.seg 9 (.fork 3 [9] (.eff 10 [] (.eff 11 [] (.seg 12 (.eff 13 [] .last)))) (.eff 10 [1, 2] (.eff 3 [] (.eff 11 [] (.seg 12 (.eff 13 [] .last)))))))))))) (.fork 5 [1, 2, 7] (.fork 0 [1, 2, 7] (.fork 3 [7] (.eff 8 [] (.seg 9 (.eff 10 [] (.eff 11 [] (.seg 12 (.eff 13 [] .last)))))) (.eff 8 [1, 2] (.seg 9 (.fork 3 [9] (.eff 10 [] (.eff 11 [] (.seg 12 (.eff 13 [] .last)))) (.eff 10 [1, 2] (.eff 3 [] (.eff 11 [] (.seg 12 (.eff 13 [] .last))))))))) (.eff 8 [1, 2] (.seg 9 (.fork 0 [1, 2, 9] (.fork 3 [9] (.eff 10 [] (.eff 11 [] (.seg 12 (.eff 13 [] .last)))) (.eff 10 [1, 2] (.eff 3 [] (.eff 11 [] (.seg 12 (.eff 13 [] .last)))))) (.eff 10 [1, 2] (.eff 0 [1, 2] (.eff 3 [] (.eff 11 [] (.seg 12 (.eff 13 [] .last)))))))))) (.eff 8 [1, 2, 4] (.fork 0 [1, 2, 4] (.fork 3 [4] (.eff 5 [] (.seg 9 (.eff 10 [] (.eff 11 [] (.seg 12 (.eff 13 [] .last)))))) (.eff 5 [1, 2] (.seg 9 (.fork 3 [9] (.eff 10 [] (.eff 11 [] (.seg 12 (.eff 13 [] .last)))) (.eff 10 [1, 2] (.eff 3 [] (.eff 11 [] (.seg 12 (.eff 13 [] .last))))))))) (.eff 5 [1, 2] (.seg 9 (.fork 0 [1, 2, 9] (.fork 3 [9] (.eff 10 [] (.eff 11 [] (.seg 12 (.eff 13 [] .last)))) (.eff 10 [1, 2] (.eff 3 [] (.eff 11 [] (.seg 12 (.eff 13 [] .last)))))) (.eff 10 [1, 2] (.eff 0 [1, 2] (.eff 3 [] (.eff 11 [] (.seg 12 (.eff 13 [] .last)))))))))))))))))))]
theorem no_ic {H : Hp} {nx n : Nat} {cs : List C} (hl : cs.length = 8) (hn : H n = some ⟨.c 29, 8, [cs]⟩) (hSol : HSol H) (t : Int) {K : D → Hp → Nat → Prop} (h : ∀ H' nx', nx ≤ nx' → (∀ i, i < nx → H' i = H i) → HSol H' → K (.tup [.agg cs, aD (eVal nilG), dI t]) H' nx') :
    ICall Tryz.prog 28 [dI t, .one (.ptr n 8 0 0)] H nx K := by
  refine ICall.fresh (by kernel_rfl) fun hfr => ?_
  have hlt := fresh_lt hfr hn
  have d0 : ¬ n = nx := by omega
  have d1 : ¬ n = nx + 1 := by omega
  refine fni_ok [0,1,3,4,5] [] Tryz.func28 rfl (by kernel_rfl) rfl rfl rfl rfl (by kernel_rfl) ?_
  have e8 : List.take 8 cs = cs := List.take_of_length_le (by omega)
  simp [hn, d0, d1, hl, e8]
  have hsc := hSol n _ hn cs (by simp)
  refine ⟨hsc, and_ofP ?_ fun hs => h _ _ (by omega) (fun i hi => ?_) hs⟩
  · exact HSol.set (HSol.set (HSol.set (HSol.set hSol (by simp)) (by simp)) (fun e he c hc => by rw [List.mem_singleton] at he; subst he; exact hsc c hc)) (by simp)
  · repeat rw [Hp.set_ne _ _ (by omega)]
theorem num_ic {H : Hp} {nx n : Nat} {cs : List C} (hl : cs.length = 8) (hn : H n = some ⟨.c 29, 8, [cs]⟩) (hSol : HSol H) (t : Int) {K : D → Hp → Nat → Prop} (h : ∀ H' nx', nx ≤ nx' → (∀ i, i < nx → H' i = H i) → HSol H' → K (.tup [.agg cs, aD (eVal ⟨2, t⟩), dI (-1)]) H' nx') :
    ICall Tryz.prog 31 [dI t, .one (.ptr n 8 0 0)] H nx K := by
  refine ICall.fresh (by kernel_rfl) fun hfr => ?_
  have hlt := fresh_lt hfr hn
  have d0 : ¬ n = nx := by omega
  have d1 : ¬ n = nx + 1 := by omega
  refine fni_ok [0,1,3,4,5] [] Tryz.func31 rfl (by kernel_rfl) rfl rfl rfl rfl (by kernel_rfl) ?_
  have e8 : List.take 8 cs = cs := List.take_of_length_le (by omega)
  simp [hn, d0, d1, hl, e8]
  have hsc := hSol n _ hn cs (by simp)
  refine ⟨hsc, and_ofP ?_ fun hs => h _ _ (by omega) (fun i hi => ?_) hs⟩
  · exact HSol.set (HSol.set (HSol.set (HSol.set hSol (by simp)) (by simp)) (fun e he c hc => by rw [List.mem_singleton] at he; subst he; exact hsc c hc)) (by simp)
  · repeat rw [Hp.set_ne _ _ (by omega)]
theorem boolD_ok (b : Bool) {K : D → List Blk → Prop} (h : K (dV 1 (bit b)) []) : DPure Tryz.prog 41 [dB b] K := by
  refine fn_ok [0,2,3] [] Tryz.func41 rfl (by kernel_rfl) rfl rfl rfl rfl (by kernel_rfl) ?_
  simp
  cases b <;> exact h
abbrev wList : ByteArray := ⟨#[108, 105, 115, 116]⟩
abbrev wObj : ByteArray := ⟨#[111, 98, 106, 101, 99, 116]⟩
abbrev wInt : ByteArray := ⟨#[105, 110, 116]⟩
abbrev wFlo : ByteArray := ⟨#[102, 108, 111, 97, 116]⟩
abbrev wGen : ByteArray := ⟨#[103, 101, 110, 101, 114, 97, 116, 111, 114]⟩
abbrev wWeak : ByteArray := ⟨#[119, 101, 97, 107]⟩
abbrev wRef : ByteArray := ⟨#[114, 101, 102]⟩
abbrev wFun : ByteArray := ⟨#[102, 117, 110, 99, 116, 105, 111, 110]⟩
abbrev wAny : ByteArray := ⟨#[]⟩
def argS (s : GState) (w : ByteArray) (v : GVal) : Bool :=
  if w = wList then namesB s v 2 else if w = wObj then namesB s v 1 else if w = wInt then decide (v.kind = 2) else if w = wFlo then decide (v.kind = 3) else if w = wGen then namesB s v 5 else if w = wWeak then namesB s v 7 else if w = wRef then decide (v.kind = 5) else if w = wFun then namesB s v 4 else true
def formW : Nat → List ByteArray
  | 0 => [wAny]
  | 1 => [wList, wAny]
  | 2 => [wList]
  | 3 => [wObj]
  | 4 => [wAny]
  | 5 => [wAny]
  | 6 => [wInt]
  | 7 => [wFlo]
  | 8 => [wGen, wAny]
  | 9 => [wGen]
  | 12 => [wWeak, wRef, wAny]
  | 13 => [wWeak, wRef]
  | 14 => [wRef, wFun]
  | _ => []
theorem argFits_ok (s : GState) (w : ByteArray) (v : GVal) {K : D → List Blk → Prop} (h : K (dB (argS s w v)) []) : DPure Tryz.prog 30 [aD (eState s), dS w, aD (eVal v)] K := by
  refine fn_ok [0,1,2,3,5,6,7,8,13,18,23,28,33,38,43] [] Tryz.func30 rfl (by kernel_rfl) rfl rfl rfl rfl (by kernel_rfl) ?_
  unfold argS at h
  simp
  by_cases c1 : w = wList
  · simp only [c1, if_true] at h
    simp [c1]
    refine kindIn_ok s v 2 ?_
    simp
    exact h
  by_cases c2 : w = wObj
  · simp only [c1, c2, if_true, if_false] at h
    simp [c1, c2]
    refine kindIn_ok s v 1 ?_
    simp
    exact h
  by_cases c3 : w = wInt
  · simp only [c1, c2, c3, if_true, if_false] at h
    simp [c1, c2, c3]
    exact h
  by_cases c4 : w = wFlo
  · simp only [c1, c2, c3, c4, if_true, if_false] at h
    simp [c1, c2, c3, c4]
    exact h
  by_cases c5 : w = wGen
  · simp only [c1, c2, c3, c4, c5, if_true, if_false] at h
    simp [c1, c2, c3, c4, c5]
    refine kindIn_ok s v 5 ?_
    simp
    exact h
  by_cases c6 : w = wWeak
  · simp only [c1, c2, c3, c4, c5, c6, if_true, if_false] at h
    simp [c1, c2, c3, c4, c5, c6]
    refine kindIn_ok s v 7 ?_
    simp
    exact h
  by_cases c7 : w = wRef
  · simp only [c1, c2, c3, c4, c5, c6, c7, if_true, if_false] at h
    simp [c1, c2, c3, c4, c5, c6, c7]
    exact h
  by_cases c8 : w = wFun
  · simp only [c1, c2, c3, c4, c5, c6, c7, c8, if_true, if_false] at h
    simp [c1, c2, c3, c4, c5, c6, c7, c8]
    refine kindIn_ok s v 4 ?_
    simp
    exact h
  simp only [c1, c2, c3, c4, c5, c6, c7, c8, if_false] at h
  simp [c1, c2, c3, c4, c5, c6, c7, c8]
  exact h
theorem c_16 {c : Nat} (hc : c < 16) : c = 0 ∨ c = 1 ∨ c = 2 ∨ c = 3 ∨ c = 4 ∨ c = 5 ∨ c = 6 ∨ c = 7 ∨ c = 8 ∨ c = 9 ∨ c = 10 ∨ c = 11 ∨ c = 12 ∨ c = 13 ∨ c = 14 ∨ c = 15 := by omega
theorem formW_len {c : Nat} (hc : c < 16) : (formW c).length = (formB c).length := by
  rcases c_16 hc with rfl | rfl | rfl | rfl | rfl | rfl | rfl | rfl | rfl | rfl | rfl | rfl | rfl | rfl | rfl | rfl <;> rfl
theorem args_same (s : GState) {c : Nat} (hc : c < 16) (args : List GVal) : argsB s (formB c) args = ((formW c).zip args).all fun x => argS s x.1 x.2 := by
  rcases c_16 hc with rfl | rfl | rfl | rfl | rfl | rfl | rfl | rfl | rfl | rfl | rfl | rfl | rfl | rfl | rfl | rfl <;> (rcases args with _ | ⟨a, _ | ⟨b, _ | ⟨d, l⟩⟩⟩ <;> simp [argsB, formB, formW, argB, argS])
end Go.Proofs.YtbphdcffpobcbaaGreatDoor
