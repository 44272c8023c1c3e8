/- Several texts in one. -/
import Derived.Lib.SliceRun
import Derived.Deep.RegionLaw
import Derived.Test.YtbphdcffpobcbaaGreatDoorMb
import Derived.Test.YtbphdcffpobcbaaGreatDoorMc
import Derived.Test.YtbphdcffpobcbaaGreatDoorMd
import Derived.Test.YtbphdcffpobcbaaGreatDoorMe
import Derived.Test.YtbphdcffpobcbaaGreatDoorMki
set_option linter.unusedSimpArgs false
set_option linter.unusedVariables false
set_option maxRecDepth 100000
set_option maxHeartbeats 16000000
namespace Go.Proofs.YtbphdcffpobcbaaGreatDoor
open Go.RowKit Go
theorem kept_ic {H : Hp} {lo nx nS : Nat} {A : Ad → Nat} {s : GState} (hq : cellsQ wordsT s = 0) (S : Bool) (a key : GVal) (ha : namesB s a 7 = true) (hSol : HSol H) (hO : OwnS H lo A s) (hS : H nS = some (stB A s)) (hSn : ∀ x, Live s x → A x ≠ nS) (hlo : lo ≤ nx) {K : D → Hp → Nat → Prop} (hK : CallK H nx lo nS A s (keptW s a key) K) :
    ICall Tryz.prog 82 [hpO nS, dI 13, dL S [eVal a, eVal key]] H nx K := by
  refine ICall.fresh (by kernel_rfl) fun hfr => ICall.cut ?_
  have n1 : ∀ x, Live s x → A x < nx := fun x hx => hO.lt hfr hx
  have pS := fresh_lt hfr hS
  obtain ⟨n, hnl, rfl, hat, hk⟩ := names_cell ha
  refine fni_ok [0,1,2,3,6,7,8,9,10,11,13,14,15,21,22,29,49,57,78,89,90,91,92,107,115,143,156,159,161] [(1, [0,0,2,6,15,31], (.seg 0 (.seg 1 (.seg 2 (.seg 3 (.eff 4 [] (.seg 5 .last))))))), (6, [0,0,2,6,14,0,32,96,224,510,1023,2047,4095], (.seg 0 (.seg 1 (.seg 2 (.seg 3 (.seg 4 (.seg 5 (.seg 6 (.seg 7 (.eff 8 [2, 3, 4] (.eff 9 [] (.seg 10 (.seg 11 (.eff 12 [] .last)))))))))))))), (17, [0,1,3,7,15,0,32,96,224,511,1023,0], (.seg 0 (.seg 1 (.seg 2 (.seg 3 (.seg 4 (.seg 5 (.seg 6 (.seg 7 (.seg 8 (.seg 11 (.eff 9 [] (.seg 10 .last))))))))))))), (26, [0,1,0,4,12,28,60,0,128,384,896,0,2048,6144,16256,32640,65532,131071,262143,524287], (.seg 0 (.seg 2 (.seg 3 (.seg 4 (.seg 5 (.seg 6 (.seg 7 (.seg 8 (.seg 9 (.seg 10 (.seg 11 (.seg 12 (.seg 13 (.seg 14 (.fork 1 [2, 3, 4, 5, 6, 8, 9, 10, 12, 13, 14] (.eff 15 [2, 3, 4, 5, 6] (.eff 16 [] (.seg 17 (.seg 18 (.eff 19 [] .last))))) (.eff 15 [0, 2, 3, 4, 5, 6] (.fork 1 [2, 3, 4, 5, 6] (.eff 16 [] (.seg 17 (.seg 18 (.eff 19 [] .last)))) (.eff 16 [0] (.eff 1 [] (.seg 17 (.seg 18 (.eff 19 [] .last))))))))))))))))))))))), (32, [0,1,3,7,0,31,63,0,128,384,1023], (.seg 0 (.seg 1 (.seg 2 (.seg 3 (.seg 4 (.seg 5 (.seg 6 (.seg 7 (.seg 8 (.seg 9 (.seg 10 .last)))))))))))), (38, [0,0,0,0,8,24,0,64,192,511], (.seg 0 (.seg 1 (.seg 2 (.seg 3 (.seg 4 (.seg 5 (.seg 6 (.seg 7 (.seg 8 (.eff 9 [] .last)))))))))))] Tryz.func82 rfl (by kernel_rfl) rfl rfl rfl rfl (by kernel_rfl) ?_
  simp [Nat.add_assoc]
  have hM1 : OwnS ((H.set nx (some ⟨.c 65, 1, [[.ptr nS 8 0 0]]⟩)).set (nx + 1) (some ⟨.c 31, 2, [[.d (.lit (.int .i64 0)), .d (.lit (.int .i64 0))]]⟩)) lo A s := (hO.set_low _ fun x hx => by have := n1 x hx; omega).set_low _ fun x hx => by have := n1 x hx; omega
  have hM2 : ∀ i, i < nx → ((H.set nx (some ⟨.c 65, 1, [[.ptr nS 8 0 0]]⟩)).set (nx + 1) (some ⟨.c 31, 2, [[.d (.lit (.int .i64 0)), .d (.lit (.int .i64 0))]]⟩)) i = H i := fun i hi => by rw [Hp.set_ne _ _ (by omega), Hp.set_ne _ _ (by omega)]
  have hM3 : HSol ((H.set nx (some ⟨.c 65, 1, [[.ptr nS 8 0 0]]⟩)).set (nx + 1) (some ⟨.c 31, 2, [[.d (.lit (.int .i64 0)), .d (.lit (.int .i64 0))]]⟩)) := HSol.set (HSol.set hSol (by simp)) (by simp)
  have hM4 : ∀ i, nx + 2 ≤ i → ((H.set nx (some ⟨.c 65, 1, [[.ptr nS 8 0 0]]⟩)).set (nx + 1) (some ⟨.c 31, 2, [[.d (.lit (.int .i64 0)), .d (.lit (.int .i64 0))]]⟩)) i = none := fun i hi => by rw [Hp.set_ne _ _ (by omega), Hp.set_ne _ _ (by omega)]; exact hfr i (by omega)
  have hM5 : ((H.set nx (some ⟨.c 65, 1, [[.ptr nS 8 0 0]]⟩)).set (nx + 1) (some ⟨.c 31, 2, [[.d (.lit (.int .i64 0)), .d (.lit (.int .i64 0))]]⟩)) nx = some ⟨.c 65, 1, [[.ptr nS 8 0 0]]⟩ := by simp
  have hM6 : ((H.set nx (some ⟨.c 65, 1, [[.ptr nS 8 0 0]]⟩)).set (nx + 1) (some ⟨.c 31, 2, [[.d (.lit (.int .i64 0)), .d (.lit (.int .i64 0))]]⟩)) (nx + 1) = some ⟨.c 31, 2, [[.d (.lit (.int .i64 0)), .d (.lit (.int .i64 0))]]⟩ := by simp
  generalize ((H.set nx (some ⟨.c 65, 1, [[.ptr nS 8 0 0]]⟩)).set (nx + 1) (some ⟨.c 31, 2, [[.d (.lit (.int .i64 0)), .d (.lit (.int .i64 0))]]⟩)) = M at *
  have hSM : M nS = some (stB A s) := by rw [hM2 nS pS]; exact hS
  have hsub : ∀ i y, H i = some y → M i = some y := fun i y hy => by rw [hM2 i (fresh_lt hfr hy)]; exact hy
  have hr : RefOk s ⟨5, n⟩ := fun _ => ⟨Int.natCast_nonneg n, by simpa using hnl⟩
  refine heapOfO_ic hM3 hM1 hSM ⟨5, n⟩ hr (fun _ nx1 hn1 => ?_) (fun h => absurd rfl h)
  rw [show (⟨5, (n : Int)⟩ : GVal).n.toNat = n from Int.toNat_natCast n]
  obtain ⟨R, r1, r2, r3⟩ := hM1.ce
  obtain ⟨r4, r5⟩ := List.getElem?_eq_some_iff.1 (r3 n hnl)
  rw [oCe, ceR] at r5
  have m1 := n1 .c trivial
  have m2 := n1 (.cv n) hnl
  have hc1 := hSn .c trivial
  have hc2 := hSn (.cv n) hnl
  have eB : ∀ c', stB A (s.setC n c') = stB A s := fun c' => by simp [stB, oRow, GState.setC]
  have hSM' := hSM
  rw [stB, oRow] at hSM'
  have hvl := (cell_vals hq hnl).2.2
  have b1 : ¬ A .c = nx1 := by omega
  have b2 : ¬ A .c = nx1 + 1 := by omega
  have b3 : ¬ A .c = nx + 1 := by omega
  have b4 : ¬ A (.cv n) = nx1 := by omega
  have b5 : ¬ A (.cv n) = nx1 + 1 := by omega
  have b6 : ¬ A (.cv n) = nx + 1 := by omega
  have b7 : ¬ nx + 1 = nx1 := by omega
  have b8 : ¬ nx + 1 = nx1 + 1 := by omega
  have b9 : ¬ nx + 1 = A .c := by omega
  have b10 : ¬ nx + 1 = A (.cv n) := by omega
  have b11 : ¬ A .c = A (.cv n) := hM1.ne (x := .c) (y := .cv n) trivial hnl (by simp)
  have b12 : ¬ A (.cv n) = A .c := fun e => b11 e.symm
  have b13 : ¬ nx1 + 1 = A .c := by omega
  have b14 : ¬ nx1 + 1 = nx + 1 := by omega
  have b15 : ¬ nx1 = A .c := by omega
  have b16 : ¬ nx1 = nx + 1 := by omega
  have b17 : ¬ nS = nx1 := by omega
  have b18 : ¬ nS = nx1 + 1 := by omega
  have b19 : ¬ nS = nx + 1 := by omega
  have b20 : ¬ nS = A .c := fun e => hc1 e.symm
  have b21 : ¬ nS = A (.cv n) := fun e => hc2 e.symm
  have b22 : ¬ nx = nx1 := by omega
  have b23 : ¬ nx = A .c := by omega
  have b24 : ¬ nx = nx + 1 := by omega
  obtain ⟨ys, y1⟩ := hM1.cv n hnl
  unfold keptW at hK
  rw [hat] at hK
  generalize hl : s.cells[n].vals = l at *
  simp
  refine loopH_ok (ks := [0,1,2,3,6,7,8,9,10,11,13,14,15,21,22,29,49,57,78,89,90,91,92,107,115,143,156,159,161]) (pl := [(1, [0,0,2,6,15,31], (.seg 0 (.seg 1 (.seg 2 (.seg 3 (.eff 4 [] (.seg 5 .last))))))), (6, [0,0,2,6,14,0,32,96,224,510,1023,2047,4095], (.seg 0 (.seg 1 (.seg 2 (.seg 3 (.seg 4 (.seg 5 (.seg 6 (.seg 7 (.eff 8 [2, 3, 4] (.eff 9 [] (.seg 10 (.seg 11 (.eff 12 [] .last)))))))))))))), (17, [0,1,3,7,15,0,32,96,224,511,1023,0], (.seg 0 (.seg 1 (.seg 2 (.seg 3 (.seg 4 (.seg 5 (.seg 6 (.seg 7 (.seg 8 (.seg 11 (.eff 9 [] (.seg 10 .last))))))))))))), (26, [0,1,0,4,12,28,60,0,128,384,896,0,2048,6144,16256,32640,65532,131071,262143,524287], (.seg 0 (.seg 2 (.seg 3 (.seg 4 (.seg 5 (.seg 6 (.seg 7 (.seg 8 (.seg 9 (.seg 10 (.seg 11 (.seg 12 (.seg 13 (.seg 14 (.fork 1 [2, 3, 4, 5, 6, 8, 9, 10, 12, 13, 14] (.eff 15 [2, 3, 4, 5, 6] (.eff 16 [] (.seg 17 (.seg 18 (.eff 19 [] .last))))) (.eff 15 [0, 2, 3, 4, 5, 6] (.fork 1 [2, 3, 4, 5, 6] (.eff 16 [] (.seg 17 (.seg 18 (.eff 19 [] .last)))) (.eff 16 [0] (.eff 1 [] (.seg 17 (.seg 18 (.eff 19 [] .last))))))))))))))))))))))), (32, [0,1,3,7,0,31,63,0,128,384,1023], (.seg 0 (.seg 1 (.seg 2 (.seg 3 (.seg 4 (.seg 5 (.seg 6 (.seg 7 (.seg 8 (.seg 9 (.seg 10 .last)))))))))))), (38, [0,0,0,0,8,24,0,64,192,511], (.seg 0 (.seg 1 (.seg 2 (.seg 3 (.seg 4 (.seg 5 (.seg 6 (.seg 7 (.seg 8 (.eff 9 [] .last)))))))))))]) (n0 := 182) (α := {j : Nat // 2 * j ≤ l.length + 1}) (fun x => [(14, dI (keyAtK l key x.1)), (15, dI ((2 * x.1 : Nat) : Int))]) (fun H _ => H) (fun _ => nx1) (fun x => l.length + 2 - 2 * x.1) ⟨0, by omega⟩ rfl (by kernel_rfl) (Wk.sub (by simp [keyAtK])) ?_
  rintro ⟨j, hj⟩
  rw [valBlk] at y1
  by_cases h1 : 2 * j < l.length
  · have h1' : 2 * (j : Int) < (l.length : Int) := by omega
    have y2 := vrowG (ys := ys) h1
    generalize hL : ((l ++ ys).map fun v => (eVal v).map C.d) = L at *
    obtain ⟨y4, y5⟩ := List.getElem?_eq_some_iff.1 y2
    have hv : valAt l (2 * j) = l[2 * j] := by simp [valAt, List.getD_eq_getElem?_getD, h1]
    have hw : IntKind.i64.wrap (2 * (j : Int) + 2) = ((2 * (j + 1) : Nat) : Int) := by rw [wrap_id (by omega) (by omega)]; omega
    obtain ⟨w, hwe⟩ : ∃ w, w = l[2 * j] := ⟨_, rfl⟩
    rw [← hwe] at y5 hv
    have htn : (2 * (j : Int)).toNat = 2 * j := by omega
    have h0 : 0 ≤ 2 * (j : Int) := by omega
    simp [h1, h1', r1, r4, r5, y1, y4, y5, hw, htn, h0]
    intro _
    have ke : keyAtK l key (j + 1) = if w = key then ((2 * j : Nat) : Int) else keyAtK l key j := by rw [keyAtK, hv]
    refine alt (fun e => ?_) (fun e => ?_)
    · have e' : w = key := by cases w; cases key; simp_all
      rw [if_pos e'] at ke
      exact ⟨j + 1, by omega, by omega, Wk.sub (by simp [ke])⟩
    · have e' : ¬ w = key := fun h => e ⟨by rw [h], by rw [h]⟩
      rw [if_neg e'] at ke
      exact ⟨j + 1, by omega, by omega, Wk.sub (by simp [ke])⟩
  · have h1' : ¬ 2 * (j : Int) < (l.length : Int) := by omega
    obtain ⟨d, -, -, -⟩ := heap_cell hq hnl
    obtain ⟨g1, -, -, -⟩ := cellB_parts d
    obtain ⟨-, w2⟩ := kind_weak g1 hk
    rw [hl] at w2
    obtain ⟨ps, hps, -, -⟩ := weak_iff.1 w2
    have hpl : l.length = 2 * ps.length := by rw [hps, unp_len]
    obtain rfl : j = ps.length := by omega
    have hkey : keyAtK l key ps.length = keyAt l key := by
      unfold keyAt
      rw [hpl, show (2 * ps.length + 1) / 2 = ps.length by omega]
    rw [hkey]
    have hsp := keyAt_spec ps key
    rw [← hps] at hsp
    unfold keptV at hK
    by_cases c1 : keyAt l key < 0
    · rw [if_pos c1] at hK
      simp [h1, h1', r1, r4, r5, hM6, c1]
      intro _
      exact ⟨HSol.set hM3 (by simp), H, fun i y hy => by rw [Hp.set_ne _ _ (by have := fresh_lt hfr hy; omega)]; exact hsub i y hy, hK.same hfr hSol hO hS _ (by omega)⟩
    · rw [if_neg c1] at hK
      obtain ⟨i, hi, -, hi2⟩ := hsp.resolve_left fun h => c1 (by omega)
      rw [hi2] at hK c1 ⊢
      have hil : 2 * i + 1 < l.length := by omega
      have y2 := vrowG (ys := ys) hil
      generalize hL : ((l ++ ys).map fun v => (eVal v).map C.d) = L at *
      obtain ⟨y4, y5⟩ := List.getElem?_eq_some_iff.1 y2
      have hv : valAt l (2 * i + 1) = l[2 * i + 1] := by simp [valAt, List.getD_eq_getElem?_getD, hil]
      have hw : IntKind.i64.wrap (2 * (i : Int) + 1) = ((2 * i + 1 : Nat) : Int) := by rw [wrap_id (by omega) (by omega)]; omega
      have h0 : ¬ 2 * (i : Int) < 0 := by omega
      have h2 : 0 ≤ 2 * (i : Int) + 1 := by omega
      have h3 : (2 * (i : Int) + 1).toNat = 2 * i + 1 := by omega
      simp only [Int.toNat_natCast] at hK
      rw [hv] at hK
      generalize l[2 * i + 1] = w at *
      simp [h1, h1', r1, r4, r5, hM6, y1, y4, y5, hw, h0, h2, h3, hil]
      intro _
      exact ⟨HSol.set hM3 (by simp), H, fun i y hy => by rw [Hp.set_ne _ _ (by have := fresh_lt hfr hy; omega)]; exact hsub i y hy, hK.same hfr hSol hO hS _ (by omega)⟩
theorem heapCallT_ic {H : Hp} {lo nx nS : Nat} {A : Ad → Nat} {s : GState} (hq : cellsQ wordsT s = 0) (S : Bool) (call : Int) (hcall : call = 13) (args : List GVal) (hf : ∀ v ∈ args, fitsB s v = true) (hSol : HSol H) (hO : OwnS H lo A s) (hS : H nS = some (stB A s)) (hSn : ∀ x, Live s x → A x ≠ nS) (hlo : lo ≤ nx) {K : D → Hp → Nat → Prop} (hK : CallK H nx lo nS A s (callW s call args) K) :
    ICall Tryz.prog 25 [hpO nS, dI call, dL S (args.map eVal)] H nx K := by
  refine ICall.fresh (by kernel_rfl) fun hfr => ICall.cut ?_
  have n1 : ∀ x, Live s x → A x < nx := fun x hx => hO.lt hfr hx
  have pS := fresh_lt hfr hS
  refine fni_ok [0,1,2,3,6,7,8,9,10,11,12,18,22,29,30,31,32,42,45,46,55,66,74,84,99,104,116,123,130] [(9, [0,0,0,6,0,31,63], (.seg 0 (.seg 1 (.seg 2 (.seg 3 (.seg 4 (.eff 5 [] (.seg 6 .last)))))))), (14, [0,0,2,6,15,31,31,127,255], (.seg 0 (.seg 1 (.seg 2 (.seg 3 (.eff 4 [] (.seg 5 (.seg 6 (.eff 7 [] (.seg 8 .last)))))))))), (16, [0,0,0,4,12,30,63,127,127,511,1023], (.seg 0 (.seg 1 (.seg 2 (.seg 3 (.seg 4 (.eff 5 [0] (.eff 6 [] (.seg 7 (.seg 8 (.eff 9 [] (.seg 10 .last)))))))))))), (18, [0,0,2,6,15,31,63,127], (.seg 0 (.seg 1 (.seg 2 (.seg 3 (.eff 4 [] (.seg 5 (.eff 6 [] (.seg 7 .last))))))))), (27, [0,0,2,6,15,31,63,127,255,511,1023,2047], (.seg 0 (.seg 1 (.seg 2 (.seg 3 (.eff 4 [] (.seg 5 (.seg 6 (.seg 7 (.seg 8 (.eff 9 [] (.eff 10 [] (.seg 11 .last)))))))))))))] Tryz.func25 rfl (by kernel_rfl) rfl rfl rfl rfl (by kernel_rfl) ?_
  simp [Nat.add_assoc]
  have hM1 : OwnS ((H.set nx (some ⟨.c 65, 1, [[.ptr nS 8 0 0]]⟩)).set (nx + 1) (some ⟨.c 31, 2, [[.d (.lit (.int .i64 0)), .d (.lit (.int .i64 0))]]⟩)) lo A s := (hO.set_low _ fun x hx => by have := n1 x hx; omega).set_low _ fun x hx => by have := n1 x hx; omega
  have hM2 : ∀ i, i < nx → ((H.set nx (some ⟨.c 65, 1, [[.ptr nS 8 0 0]]⟩)).set (nx + 1) (some ⟨.c 31, 2, [[.d (.lit (.int .i64 0)), .d (.lit (.int .i64 0))]]⟩)) i = H i := fun i hi => by rw [Hp.set_ne _ _ (by omega), Hp.set_ne _ _ (by omega)]
  have hM3 : HSol ((H.set nx (some ⟨.c 65, 1, [[.ptr nS 8 0 0]]⟩)).set (nx + 1) (some ⟨.c 31, 2, [[.d (.lit (.int .i64 0)), .d (.lit (.int .i64 0))]]⟩)) := HSol.set (HSol.set hSol (by simp)) (by simp)
  have hM5 : ((H.set nx (some ⟨.c 65, 1, [[.ptr nS 8 0 0]]⟩)).set (nx + 1) (some ⟨.c 31, 2, [[.d (.lit (.int .i64 0)), .d (.lit (.int .i64 0))]]⟩)) nx = some ⟨.c 65, 1, [[.ptr nS 8 0 0]]⟩ := by simp
  have hM6 : ((H.set nx (some ⟨.c 65, 1, [[.ptr nS 8 0 0]]⟩)).set (nx + 1) (some ⟨.c 31, 2, [[.d (.lit (.int .i64 0)), .d (.lit (.int .i64 0))]]⟩)) (nx + 1) = some ⟨.c 31, 2, [[.d (.lit (.int .i64 0)), .d (.lit (.int .i64 0))]]⟩ := by simp
  generalize ((H.set nx (some ⟨.c 65, 1, [[.ptr nS 8 0 0]]⟩)).set (nx + 1) (some ⟨.c 31, 2, [[.d (.lit (.int .i64 0)), .d (.lit (.int .i64 0))]]⟩)) = M at *
  have hsub : ∀ i y, H i = some y → M i = some y := fun i y hy => by rw [hM2 i (fresh_lt hfr hy)]; exact hy
  have hsub1 : ∀ (B : Blk) i y, H i = some y → (M.set (nx + 1) (some B)) i = some y := fun B i y hy => by rw [Hp.set_ne _ _ (by have := fresh_lt hfr hy; omega)]; exact hsub i y hy
  by_cases hc : call < 0 ∨ 16 ≤ call
  · have e : callW s call args = (s, nilG, 0) := by unfold callW; rw [if_pos hc]
    rw [e] at hK
    refine cform_no call hc ?_
    simp [hM6]
    exact ⟨HSol.set hM3 (by simp), H, hsub1 _, hK.bad (by simp) _ (by omega)⟩
  obtain ⟨c, rfl⟩ : ∃ c : Nat, call = c := ⟨call.toNat, by omega⟩
  have hc16 : c < 16 := by omega
  refine cform_ok c hc16 ?_
  have hf3 : (formB c).length ≤ 3 := by
    have : c = 0 ∨ c = 1 ∨ c = 2 ∨ c = 3 ∨ c = 4 ∨ c = 5 ∨ c = 6 ∨ c = 7 ∨ c = 8 ∨ c = 9 ∨ c = 10 ∨ c = 11 ∨ c = 12 ∨ c = 13 ∨ c = 14 ∨ c = 15 := by omega
    rcases this with rfl | rfl | rfl | rfl | rfl | rfl | rfl | rfl | rfl | rfl | rfl | rfl | rfl | rfl | rfl | rfl <;> decide
  have hsz : (⟨(formB c).toArray⟩ : ByteArray).size = (formB c).length := by simp [ByteArray.size]
  by_cases hl : args.length = (formB c).length
  case neg =>
    have e : callW s c args = (s, nilG, 7) := by unfold callW; rw [if_neg hc, if_pos (by simpa using hl)]
    rw [e] at hK
    have hl' : ¬ (args.length : Int) = ((formB c).length : Int) := by omega
    simp [hM6, hl, hl', hsz]
    intros
    exact ⟨HSol.set hM3 (by simp), H, hsub1 _, hK.bad (by simp) _ (by omega)⟩
  obtain ⟨f, hfm⟩ : ∃ f, f = formB c := ⟨_, rfl⟩
  rw [← hfm] at hl hf3 hsz ⊢
  simp [hl, hsz]
  intro _
  refine loopH_ok (ks := [0,1,2,3,6,7,8,9,10,11,12,18,22,29,30,31,32,42,45,46,55,66,74,84,99,104,116,123,130]) (pl := [(9, [0,0,0,6,0,31,63], (.seg 0 (.seg 1 (.seg 2 (.seg 3 (.seg 4 (.eff 5 [] (.seg 6 .last)))))))), (14, [0,0,2,6,15,31,31,127,255], (.seg 0 (.seg 1 (.seg 2 (.seg 3 (.eff 4 [] (.seg 5 (.seg 6 (.eff 7 [] (.seg 8 .last)))))))))), (16, [0,0,0,4,12,30,63,127,127,511,1023], (.seg 0 (.seg 1 (.seg 2 (.seg 3 (.seg 4 (.eff 5 [0] (.eff 6 [] (.seg 7 (.seg 8 (.eff 9 [] (.seg 10 .last)))))))))))), (18, [0,0,2,6,15,31,63,127], (.seg 0 (.seg 1 (.seg 2 (.seg 3 (.eff 4 [] (.seg 5 (.eff 6 [] (.seg 7 .last))))))))), (27, [0,0,2,6,15,31,63,127,255,511,1023,2047], (.seg 0 (.seg 1 (.seg 2 (.seg 3 (.eff 4 [] (.seg 5 (.seg 6 (.seg 7 (.seg 8 (.eff 9 [] (.eff 10 [] (.seg 11 .last)))))))))))))]) (n0 := 140) (α := {x : HcS // HcI M (nx + 2) s args f x}) (fun x => [(31, dI x.1.k)]) (fun _ x => x.1.H) (fun x => x.1.nx) (fun x => args.length - x.1.k) ⟨⟨0, M, nx + 2⟩, ⟨Nat.zero_le _, Nat.le_refl _, fun _ _ => rfl, hM3, fun i h => absurd h (Nat.not_lt_zero _)⟩⟩ rfl (by kernel_rfl) (Wk.sub (by simp)) ?_
  rintro ⟨⟨k, H2, nx2⟩, hI⟩
  obtain ⟨hk, hn, hlow, hsol, hall⟩ := hI
  simp only at hk hn hlow hsol hall
  have q5 : H2 nx = some ⟨.c 65, 1, [[.ptr nS 8 0 0]]⟩ := by rw [hlow nx (by omega)]; exact hM5
  have q6 : H2 (nx + 1) = some ⟨.c 31, 2, [[.d (.lit (.int .i64 0)), .d (.lit (.int .i64 0))]]⟩ := by rw [hlow (nx + 1) (by omega)]; exact hM6
  have qS : H2 nS = some (stB A s) := by rw [hlow nS (by omega), hM2 nS pS]; exact hS
  have qO : OwnS H2 lo A s := hM1.low fun x hx => hlow _ (by have := n1 x hx; omega)
  have qsub : ∀ i y, H i = some y → H2 i = some y := fun i y hy => by rw [hlow i (by have := fresh_lt hfr hy; omega)]; exact hsub i y hy
  have qsub1 : ∀ (B : Blk) i y, H i = some y → (H2.set (nx + 1) (some B)) i = some y := fun B i y hy => by rw [Hp.set_ne _ _ (by have := fresh_lt hfr hy; omega)]; exact qsub i y hy
  by_cases h1 : k < f.length
  · have h1' : (k : Int) < (f.length : Int) := by omega
    have h2 : k < args.length := by omega
    have d1 : ¬ nx = nx2 := by omega
    have d2 : ¬ nx + 1 = nx2 := by omega
    have d3 : ¬ nS = nx2 := by omega
    simp [h1, h1', h2, q5, d1, d2]
    have solV : HSol (H2.set nx2 (some ⟨.c 31, 2, [[.d (eI args[k].kind), .d (eI args[k].n)]]⟩)) := hsol.set (by simp)
    have oV : OwnS (H2.set nx2 (some ⟨.c 31, 2, [[.d (eI args[k].kind), .d (eI args[k].n)]]⟩)) lo A s := qO.set_low _ fun x hx => by have := n1 x hx; omega
    have sV : (H2.set nx2 (some ⟨.c 31, 2, [[.d (eI args[k].kind), .d (eI args[k].n)]]⟩)) nS = some (stB A s) := by rw [Hp.set_ne _ _ d3]; exact qS
    refine ICall.lendL (es := [hpD true s, .one (.d (.lit (.int .u8 f[k].toNat))), aD (eVal args[k])]) ⟨heap_shw oV sV, ⟨_, rfl, .d rfl⟩, val_shw _, trivial⟩ (heapFits_ok s f[k] args[k] ⟨by simp, ?_⟩)
    have ea : argB s (f.getD k 0) (valAt args k) = argB s f[k] args[k] := by simp [valAt, List.getD_eq_getElem?_getD, h1, h2]
    cases hb : argB s f[k] args[k] with
    | false =>
      have e : callW s c args = (s, nilG, 0) := by
        unfold callW
        rw [if_neg hc, Int.toNat_natCast, ← hfm, if_neg (by omega), if_pos ?_]
        rw [Bool.eq_false_iff]
        intro h
        have := (argsB_all hl).1 h k h2
        rw [ea, hb] at this
        cases this
      rw [e] at hK
      simp [q6, d2]
      exact ⟨HSol.set solV (by simp), H, fun i y hy => by rw [Hp.set_ne _ _ (by have := fresh_lt hfr hy; omega), Hp.set_ne _ _ (by have := fresh_lt hfr hy; omega)]; exact qsub i y hy, hK.bad (by simp) _ (by omega)⟩
    | true =>
      simp
      exact ⟨⟨k + 1, H2.set nx2 (some ⟨.c 31, 2, [[.d (eI args[k].kind), .d (eI args[k].n)]]⟩), nx2 + 1⟩, by simp only; omega, ⟨by simp only; omega, by simp only; omega, fun i hi => by simp only; rw [Hp.set_ne _ _ (by omega)]; exact hlow i hi, solV, fun i hi => by
        simp only at hi
        by_cases hik : i = k
        · subst hik; rw [ea]; exact hb
        · exact hall i (by omega)⟩, Wk.sub (by simp [wrap_add (show k < 9223372036854775807 by omega)])⟩
  have hk1 : k = args.length := by omega
  have hab : argsB s f args = true := (argsB_all hl).2 fun i hi => hall i (by omega)
  have e : callW s c args = callR s c args := by rw [hfm] at hl hab; exact callW_at hc16 hl hab
  rw [e] at hK
  have h1' : ¬ (k : Int) < (f.length : Int) := by omega
  have fin : ∀ (H3 : Hp) (nx3 : Nat) (A3 : Ad → Nat) (B : Blk), newRs B.es → nx2 ≤ nx3 → (∀ q, q < nx2 → (∀ x, Live s x → q ≠ A x) → q ≠ nS → H3 q = H2 q) → (∀ q, nx3 ≤ q → H3 q = none) → HSol H3 → OwnS H3 lo A3 (callR s c args).1 → H3 nS = some (stB A3 (callR s c args).1) → (∀ x, Live (callR s c args).1 x → (∃ y, Live s y ∧ A3 x = A y) ∨ nx2 ≤ A3 x) → (callR s c args).2.2 = -1 →
      HSol (H3.set (nx + 1) (some B)) ∧ cutK K (.tup [aD (eVal (callR s c args).2.1), dI (-1)]) (H3.set (nx + 1) (some B)) nx3 := by
    intro H3 nx3 A3 B hB g1 g2 g3 g4 g5 g6 g7 g8
    have hA : ∀ x, Live (callR s c args).1 x → A3 x ≠ nx + 1 := fun x hx => by
      rcases g7 x hx with ⟨y, hy, e⟩ | e
      · have := n1 y hy; omega
      · omega
    have g9 : HSol (H3.set (nx + 1) (some B)) := HSol.set g4 hB.sol
    refine ⟨g9, _, fun _ _ h => h, hK.ok g8 _ nx3 A3 (by omega) (fun q h1 h2 h3 => ?_) (fun q hq => ?_) g9 (g5.set_low _ hA) ?_ fun x hx => ?_⟩
    · rw [Hp.set_ne _ _ (by omega), g2 q (by omega) h2 h3, hlow q (by omega), hM2 q h1]
    · rw [Hp.set_ne _ _ (by omega)]; exact g3 q hq
    · rw [Hp.set_ne _ _ (by omega)]; exact g6
    · rcases g7 x hx with h | h
      · exact .inl h
      · exact .inr (by omega)
  obtain rfl : c = 13 := by omega
  obtain ⟨a, key, rfl⟩ : ∃ a key, args = [a, key] := len_two (by rw [hl, hfm]; rfl)
  subst hfm
  simp only [callR, valAt, List.getD_cons_zero, List.getD_cons_succ] at hK fin
  simp only [formB, List.length_cons, List.length_nil] at *
  obtain rfl : k = 2 := by omega
  have ha : namesB s a 7 = true := by
    simp [argsB, formB] at hab
    exact argB_w ▸ hab.1
  simp [q5]
  refine kept_ic hq S a key ha hsol qO qS hSn (by omega) ⟨fun he nx3 hn3 => ?_, fun he H3 nx3 A3 hn3 low3 high3 sol3 O3 S3 lv3 => ?_⟩
  · simp [q6]
    exact ⟨HSol.set hsol (by simp), H, qsub1 _, hK.bad he _ (by omega)⟩
  · have r6 : H3 (nx + 1) = some ⟨.c 31, 2, [[.d (.lit (.int .i64 0)), .d (.lit (.int .i64 0))]]⟩ := by rw [low3 _ (by omega) (fun x hx => by have := n1 x hx; omega) (by omega)]; exact q6
    simp [r6]
    exact fin H3 nx3 A3 _ (by simp [newRs]) hn3 low3 high3 sol3 O3 S3 lv3 he
theorem hcT : HcOk 13 := fun hq _ S args hf hSol hO hS hSn hlo _ hK => heapCallT_ic hq S 13 rfl args hf hSol hO hS hSn hlo hK
theorem heapCallP_ic {H : Hp} {lo nx nS : Nat} {A : Ad → Nat} {s : GState} (hq : cellsQ wordsT s = 0) (S : Bool) (call : Int) (hcall : call < 0 ∨ 16 ≤ call ∨ call = 5 ∨ call = 8 ∨ call = 9 ∨ call = 15) (args : List GVal) (hf : ∀ v ∈ args, fitsB s v = true) (hSol : HSol H) (hO : OwnS H lo A s) (hS : H nS = some (stB A s)) (hSn : ∀ x, Live s x → A x ≠ nS) (hlo : lo ≤ nx) {K : D → Hp → Nat → Prop} (hK : CallK H nx lo nS A s (callW s call args) K) :
    ICall Tryz.prog 25 [hpO nS, dI call, dL S (args.map eVal)] H nx K := by
  refine ICall.fresh (by kernel_rfl) fun hfr => ICall.cut ?_
  have n1 : ∀ x, Live s x → A x < nx := fun x hx => hO.lt hfr hx
  have pS := fresh_lt hfr hS
  refine fni_ok [0,1,2,3,6,7,8,9,10,11,12,18,22,29,30,31,32,42,45,46,55,66,74,84,99,104,116,123,130] [(9, [0,0,0,6,0,31,63], (.seg 0 (.seg 1 (.seg 2 (.seg 3 (.seg 4 (.eff 5 [] (.seg 6 .last)))))))), (14, [0,0,2,6,15,31,31,127,255], (.seg 0 (.seg 1 (.seg 2 (.seg 3 (.eff 4 [] (.seg 5 (.seg 6 (.eff 7 [] (.seg 8 .last)))))))))), (16, [0,0,0,4,12,30,63,127,127,511,1023], (.seg 0 (.seg 1 (.seg 2 (.seg 3 (.seg 4 (.eff 5 [0] (.eff 6 [] (.seg 7 (.seg 8 (.eff 9 [] (.seg 10 .last)))))))))))), (18, [0,0,2,6,15,31,63,127], (.seg 0 (.seg 1 (.seg 2 (.seg 3 (.eff 4 [] (.seg 5 (.eff 6 [] (.seg 7 .last))))))))), (27, [0,0,2,6,15,31,63,127,255,511,1023,2047], (.seg 0 (.seg 1 (.seg 2 (.seg 3 (.eff 4 [] (.seg 5 (.seg 6 (.seg 7 (.seg 8 (.eff 9 [] (.eff 10 [] (.seg 11 .last)))))))))))))] Tryz.func25 rfl (by kernel_rfl) rfl rfl rfl rfl (by kernel_rfl) ?_
  simp [Nat.add_assoc]
  have hM1 : OwnS ((H.set nx (some ⟨.c 65, 1, [[.ptr nS 8 0 0]]⟩)).set (nx + 1) (some ⟨.c 31, 2, [[.d (.lit (.int .i64 0)), .d (.lit (.int .i64 0))]]⟩)) lo A s := (hO.set_low _ fun x hx => by have := n1 x hx; omega).set_low _ fun x hx => by have := n1 x hx; omega
  have hM2 : ∀ i, i < nx → ((H.set nx (some ⟨.c 65, 1, [[.ptr nS 8 0 0]]⟩)).set (nx + 1) (some ⟨.c 31, 2, [[.d (.lit (.int .i64 0)), .d (.lit (.int .i64 0))]]⟩)) i = H i := fun i hi => by rw [Hp.set_ne _ _ (by omega), Hp.set_ne _ _ (by omega)]
  have hM3 : HSol ((H.set nx (some ⟨.c 65, 1, [[.ptr nS 8 0 0]]⟩)).set (nx + 1) (some ⟨.c 31, 2, [[.d (.lit (.int .i64 0)), .d (.lit (.int .i64 0))]]⟩)) := HSol.set (HSol.set hSol (by simp)) (by simp)
  have hM5 : ((H.set nx (some ⟨.c 65, 1, [[.ptr nS 8 0 0]]⟩)).set (nx + 1) (some ⟨.c 31, 2, [[.d (.lit (.int .i64 0)), .d (.lit (.int .i64 0))]]⟩)) nx = some ⟨.c 65, 1, [[.ptr nS 8 0 0]]⟩ := by simp
  have hM6 : ((H.set nx (some ⟨.c 65, 1, [[.ptr nS 8 0 0]]⟩)).set (nx + 1) (some ⟨.c 31, 2, [[.d (.lit (.int .i64 0)), .d (.lit (.int .i64 0))]]⟩)) (nx + 1) = some ⟨.c 31, 2, [[.d (.lit (.int .i64 0)), .d (.lit (.int .i64 0))]]⟩ := by simp
  generalize ((H.set nx (some ⟨.c 65, 1, [[.ptr nS 8 0 0]]⟩)).set (nx + 1) (some ⟨.c 31, 2, [[.d (.lit (.int .i64 0)), .d (.lit (.int .i64 0))]]⟩)) = M at *
  have hsub : ∀ i y, H i = some y → M i = some y := fun i y hy => by rw [hM2 i (fresh_lt hfr hy)]; exact hy
  have hsub1 : ∀ (B : Blk) i y, H i = some y → (M.set (nx + 1) (some B)) i = some y := fun B i y hy => by rw [Hp.set_ne _ _ (by have := fresh_lt hfr hy; omega)]; exact hsub i y hy
  by_cases hc : call < 0 ∨ 16 ≤ call
  · have e : callW s call args = (s, nilG, 0) := by unfold callW; rw [if_pos hc]
    rw [e] at hK
    refine cform_no call hc ?_
    simp [hM6]
    exact ⟨HSol.set hM3 (by simp), H, hsub1 _, hK.bad (by simp) _ (by omega)⟩
  obtain ⟨c, rfl⟩ : ∃ c : Nat, call = c := ⟨call.toNat, by omega⟩
  have hc16 : c < 16 := by omega
  refine cform_ok c hc16 ?_
  have hf3 : (formB c).length ≤ 3 := by
    have : c = 0 ∨ c = 1 ∨ c = 2 ∨ c = 3 ∨ c = 4 ∨ c = 5 ∨ c = 6 ∨ c = 7 ∨ c = 8 ∨ c = 9 ∨ c = 10 ∨ c = 11 ∨ c = 12 ∨ c = 13 ∨ c = 14 ∨ c = 15 := by omega
    rcases this with rfl | rfl | rfl | rfl | rfl | rfl | rfl | rfl | rfl | rfl | rfl | rfl | rfl | rfl | rfl | rfl <;> decide
  have hsz : (⟨(formB c).toArray⟩ : ByteArray).size = (formB c).length := by simp [ByteArray.size]
  by_cases hl : args.length = (formB c).length
  case neg =>
    have e : callW s c args = (s, nilG, 7) := by unfold callW; rw [if_neg hc, if_pos (by simpa using hl)]
    rw [e] at hK
    have hl' : ¬ (args.length : Int) = ((formB c).length : Int) := by omega
    simp [hM6, hl, hl', hsz]
    intros
    exact ⟨HSol.set hM3 (by simp), H, hsub1 _, hK.bad (by simp) _ (by omega)⟩
  obtain ⟨f, hfm⟩ : ∃ f, f = formB c := ⟨_, rfl⟩
  rw [← hfm] at hl hf3 hsz ⊢
  simp [hl, hsz]
  intro _
  refine loopH_ok (ks := [0,1,2,3,6,7,8,9,10,11,12,18,22,29,30,31,32,42,45,46,55,66,74,84,99,104,116,123,130]) (pl := [(9, [0,0,0,6,0,31,63], (.seg 0 (.seg 1 (.seg 2 (.seg 3 (.seg 4 (.eff 5 [] (.seg 6 .last)))))))), (14, [0,0,2,6,15,31,31,127,255], (.seg 0 (.seg 1 (.seg 2 (.seg 3 (.eff 4 [] (.seg 5 (.seg 6 (.eff 7 [] (.seg 8 .last)))))))))), (16, [0,0,0,4,12,30,63,127,127,511,1023], (.seg 0 (.seg 1 (.seg 2 (.seg 3 (.seg 4 (.eff 5 [0] (.eff 6 [] (.seg 7 (.seg 8 (.eff 9 [] (.seg 10 .last)))))))))))), (18, [0,0,2,6,15,31,63,127], (.seg 0 (.seg 1 (.seg 2 (.seg 3 (.eff 4 [] (.seg 5 (.eff 6 [] (.seg 7 .last))))))))), (27, [0,0,2,6,15,31,63,127,255,511,1023,2047], (.seg 0 (.seg 1 (.seg 2 (.seg 3 (.eff 4 [] (.seg 5 (.seg 6 (.seg 7 (.seg 8 (.eff 9 [] (.eff 10 [] (.seg 11 .last)))))))))))))]) (n0 := 140) (α := {x : HcS // HcI M (nx + 2) s args f x}) (fun x => [(31, dI x.1.k)]) (fun _ x => x.1.H) (fun x => x.1.nx) (fun x => args.length - x.1.k) ⟨⟨0, M, nx + 2⟩, ⟨Nat.zero_le _, Nat.le_refl _, fun _ _ => rfl, hM3, fun i h => absurd h (Nat.not_lt_zero _)⟩⟩ rfl (by kernel_rfl) (Wk.sub (by simp)) ?_
  rintro ⟨⟨k, H2, nx2⟩, hI⟩
  obtain ⟨hk, hn, hlow, hsol, hall⟩ := hI
  simp only at hk hn hlow hsol hall
  have q5 : H2 nx = some ⟨.c 65, 1, [[.ptr nS 8 0 0]]⟩ := by rw [hlow nx (by omega)]; exact hM5
  have q6 : H2 (nx + 1) = some ⟨.c 31, 2, [[.d (.lit (.int .i64 0)), .d (.lit (.int .i64 0))]]⟩ := by rw [hlow (nx + 1) (by omega)]; exact hM6
  have qS : H2 nS = some (stB A s) := by rw [hlow nS (by omega), hM2 nS pS]; exact hS
  have qO : OwnS H2 lo A s := hM1.low fun x hx => hlow _ (by have := n1 x hx; omega)
  have qsub : ∀ i y, H i = some y → H2 i = some y := fun i y hy => by rw [hlow i (by have := fresh_lt hfr hy; omega)]; exact hsub i y hy
  have qsub1 : ∀ (B : Blk) i y, H i = some y → (H2.set (nx + 1) (some B)) i = some y := fun B i y hy => by rw [Hp.set_ne _ _ (by have := fresh_lt hfr hy; omega)]; exact qsub i y hy
  by_cases h1 : k < f.length
  · have h1' : (k : Int) < (f.length : Int) := by omega
    have h2 : k < args.length := by omega
    have d1 : ¬ nx = nx2 := by omega
    have d2 : ¬ nx + 1 = nx2 := by omega
    have d3 : ¬ nS = nx2 := by omega
    simp [h1, h1', h2, q5, d1, d2]
    have solV : HSol (H2.set nx2 (some ⟨.c 31, 2, [[.d (eI args[k].kind), .d (eI args[k].n)]]⟩)) := hsol.set (by simp)
    have oV : OwnS (H2.set nx2 (some ⟨.c 31, 2, [[.d (eI args[k].kind), .d (eI args[k].n)]]⟩)) lo A s := qO.set_low _ fun x hx => by have := n1 x hx; omega
    have sV : (H2.set nx2 (some ⟨.c 31, 2, [[.d (eI args[k].kind), .d (eI args[k].n)]]⟩)) nS = some (stB A s) := by rw [Hp.set_ne _ _ d3]; exact qS
    refine ICall.lendL (es := [hpD true s, .one (.d (.lit (.int .u8 f[k].toNat))), aD (eVal args[k])]) ⟨heap_shw oV sV, ⟨_, rfl, .d rfl⟩, val_shw _, trivial⟩ (heapFits_ok s f[k] args[k] ⟨by simp, ?_⟩)
    have ea : argB s (f.getD k 0) (valAt args k) = argB s f[k] args[k] := by simp [valAt, List.getD_eq_getElem?_getD, h1, h2]
    cases hb : argB s f[k] args[k] with
    | false =>
      have e : callW s c args = (s, nilG, 0) := by
        unfold callW
        rw [if_neg hc, Int.toNat_natCast, ← hfm, if_neg (by omega), if_pos ?_]
        rw [Bool.eq_false_iff]
        intro h
        have := (argsB_all hl).1 h k h2
        rw [ea, hb] at this
        cases this
      rw [e] at hK
      simp [q6, d2]
      exact ⟨HSol.set solV (by simp), H, fun i y hy => by rw [Hp.set_ne _ _ (by have := fresh_lt hfr hy; omega), Hp.set_ne _ _ (by have := fresh_lt hfr hy; omega)]; exact qsub i y hy, hK.bad (by simp) _ (by omega)⟩
    | true =>
      simp
      exact ⟨⟨k + 1, H2.set nx2 (some ⟨.c 31, 2, [[.d (eI args[k].kind), .d (eI args[k].n)]]⟩), nx2 + 1⟩, by simp only; omega, ⟨by simp only; omega, by simp only; omega, fun i hi => by simp only; rw [Hp.set_ne _ _ (by omega)]; exact hlow i hi, solV, fun i hi => by
        simp only at hi
        by_cases hik : i = k
        · subst hik; rw [ea]; exact hb
        · exact hall i (by omega)⟩, Wk.sub (by simp [wrap_add (show k < 9223372036854775807 by omega)])⟩
  have hk1 : k = args.length := by omega
  have hab : argsB s f args = true := (argsB_all hl).2 fun i hi => hall i (by omega)
  have e : callW s c args = callR s c args := by rw [hfm] at hl hab; exact callW_at hc16 hl hab
  rw [e] at hK
  have h1' : ¬ (k : Int) < (f.length : Int) := by omega
  have fin : ∀ (H3 : Hp) (nx3 : Nat) (A3 : Ad → Nat) (B : Blk), newRs B.es → nx2 ≤ nx3 → (∀ q, q < nx2 → (∀ x, Live s x → q ≠ A x) → q ≠ nS → H3 q = H2 q) → (∀ q, nx3 ≤ q → H3 q = none) → HSol H3 → OwnS H3 lo A3 (callR s c args).1 → H3 nS = some (stB A3 (callR s c args).1) → (∀ x, Live (callR s c args).1 x → (∃ y, Live s y ∧ A3 x = A y) ∨ nx2 ≤ A3 x) → (callR s c args).2.2 = -1 →
      HSol (H3.set (nx + 1) (some B)) ∧ cutK K (.tup [aD (eVal (callR s c args).2.1), dI (-1)]) (H3.set (nx + 1) (some B)) nx3 := by
    intro H3 nx3 A3 B hB g1 g2 g3 g4 g5 g6 g7 g8
    have hA : ∀ x, Live (callR s c args).1 x → A3 x ≠ nx + 1 := fun x hx => by
      rcases g7 x hx with ⟨y, hy, e⟩ | e
      · have := n1 y hy; omega
      · omega
    have g9 : HSol (H3.set (nx + 1) (some B)) := HSol.set g4 hB.sol
    refine ⟨g9, _, fun _ _ h => h, hK.ok g8 _ nx3 A3 (by omega) (fun q h1 h2 h3 => ?_) (fun q hq => ?_) g9 (g5.set_low _ hA) ?_ fun x hx => ?_⟩
    · rw [Hp.set_ne _ _ (by omega), g2 q (by omega) h2 h3, hlow q (by omega), hM2 q h1]
    · rw [Hp.set_ne _ _ (by omega)]; exact g3 q hq
    · rw [Hp.set_ne _ _ (by omega)]; exact g6
    · rcases g7 x hx with h | h
      · exact .inl h
      · exact .inr (by omega)
  have hc3 : c = 5 ∨ c = 8 ∨ c = 9 ∨ c = 15 := by omega
  rcases hc3 with rfl | rfl | rfl | rfl
  · obtain ⟨a, rfl⟩ : ∃ a, args = [a] := List.length_eq_one_iff.1 (by rw [hl, hfm]; rfl)
    subst hfm
    simp only [callR, valAt, List.getD_cons_zero] at hK fin
    simp only [formB, List.length_cons, List.length_nil] at *
    obtain rfl : k = 1 := by omega
    have hfa := hf a (by simp)
    have hki := fits_kind hfa
    simp [q5]
    refine ICall.lendL (es := [hpD true s, aD (eVal a)]) ⟨heap_shw qO qS, val_shw _, trivial⟩ (heapKind_ok true s a (fits_ref hfa) (by omega) ⟨by simp, ?_⟩)
    simp [q6]
    exact ⟨HSol.set hsol (by simp), H, qsub1 _, hK.same hfr hSol hO hS _ (by omega)⟩
  · obtain ⟨a, b, rfl⟩ : ∃ a b, args = [a, b] := len_two (by rw [hl, hfm]; rfl)
    subst hfm
    simp only [callR] at hK
    simp only [formB, List.length_cons, List.length_nil] at *
    obtain rfl : k = 2 := by omega
    simp [q6]
    exact ⟨HSol.set hsol (by simp), H, qsub1 _, hK.bad (by simp) _ (by omega)⟩
  · obtain ⟨a, rfl⟩ : ∃ a, args = [a] := List.length_eq_one_iff.1 (by rw [hl, hfm]; rfl)
    subst hfm
    simp only [callR, valAt, List.getD_cons_zero] at hK fin
    simp only [formB, List.length_cons, List.length_nil] at *
    obtain rfl : k = 1 := by omega
    have ha : namesB s a 5 = true := by
      simp [argsB, formB] at hab
      exact hab
    obtain ⟨n, hnl, rfl, hat, hk2⟩ := names_cell ha
    have hr : RefOk s ⟨5, n⟩ := fun _ => ⟨Int.natCast_nonneg n, by simpa using hnl⟩
    simp [q5]
    refine heapOfO_ic hsol qO qS ⟨5, n⟩ hr (fun _ nx3 hn3 => ?_) (fun h => absurd rfl h)
    rw [show (⟨5, (n : Int)⟩ : GVal).n.toNat = n from Int.toNat_natCast n]
    obtain ⟨R, r1, r2, r3⟩ := qO.ce
    obtain ⟨r4, r5⟩ := List.getElem?_eq_some_iff.1 (r3 n hnl)
    rw [oCe, ceR] at r5
    have m1 := n1 .c trivial
    rw [hat] at hK
    generalize hnum : s.cells[n].num = z at *
    simp [r1, r4, r5, q6]
    refine ctruth_ok _ ?_
    simp [q6]
    exact ⟨HSol.set hsol (by simp), H, qsub1 _, hK.same hfr hSol hO hS _ (by omega)⟩
  · obtain rfl : args = [] := List.length_eq_zero_iff.1 (by rw [hl, hfm]; rfl)
    subst hfm
    simp only [callR] at hK
    simp only [formB, List.length_cons, List.length_nil] at *
    obtain rfl : k = 0 := by omega
    simp [q6]
    exact ⟨HSol.set hsol (by simp), H, qsub1 _, hK.bad (by simp) _ (by omega)⟩
theorem hcP {call : Int} (h : call < 0 ∨ 16 ≤ call ∨ call = 5 ∨ call = 8 ∨ call = 9 ∨ call = 15) : HcOk call := fun hq _ S args hf hSol hO hS hSn hlo _ hK => heapCallP_ic hq S call h args hf hSol hO hS hSn hlo hK
theorem run_clear_row {P : Program} (w : World) (t e ty : TypeId) (z : Value) (ht : P.underlying t = some (.slice e)) (hv : ∀ w, (zeroValue e).run P w = .ok z w) (zs : List Value) (n : Nat) (hz : (Builtin.zeroCells z.cells n).toList = zs) (h1 : ∀ v ∈ zs, v.oneCell' = true) (b o c : Nat) (hn : 0 < n)
    (arr : Array Value) (hg : w.heap[b]? = some (.cells arr e (0, 0))) (hl : o + zs.length ≤ arr.size) :
    (Builtin.clear_ #[t] ty #[.slice (some ⟨b, o, none⟩) n c]).run P w = .ok (.tuple #[]) (w.setRow b (arr.toList.take o ++ zs ++ arr.toList.drop (o + zs.length)).toArray) := by
  have hst := run_storeCells_at (P := P) b o e zs 0 arr w hg (by omega) h1
  simp only [Nat.add_zero] at hst
  obtain ⟨m, rfl⟩ : ∃ m, n = m + 1 := ⟨n - 1, by omega⟩
  simp [Builtin.clear_, run_underlying ht, hv, hz, hst]
theorem step_val {P : Program} {ops : Array Oper} {o : Oper} {a : Act} {w w' : World} {K : Act → World → Prop} {Q : Exit → Act → World → Prop} {E : Prop} {v : Value} (hg : o.guard = none) (hrun : (execOp a.eval o).run P w = .ok (.value v) w') (hK : K (a.put o.dst v) w') :
    if Region.wanted o (yielded ops a.tmps) = true then Oper.wp P o a w K Q else E := by
  have hw : Region.wanted o (yielded ops a.tmps) = true := by simp [Region.wanted, hg]
  rw [if_pos hw]
  unfold Oper.wp
  rw [hrun, Oper.upon_value]
  exact hK
theorem delV_calls (w : World) (b n cap i j : Nat) (arr : Array Value) (hg : w.heap[b]? = some (.cells arr 31 (0, 0))) (hsz : arr.size = cap * 2) (h1 : ∀ v ∈ arr, v.oneCell' = true) (hij : i < j) (hjn : j ≤ n) (hn : n ≤ cap) (hm : cap ≤ 9223372036854775807) :
    Calls Tryz.prog 190 #[.slice (some ⟨b, 0, none⟩) n cap, .int .i64 i, .int .i64 j] w fun e w' => e = .returned (.slice (some ⟨b, 0, none⟩) (i + (n - j)) cap) ∧ ∃ arr' : Array Value, w' = w.drew.setRow b arr' ∧ arr'.size = cap * 2 ∧ (∀ v ∈ arr', v.oneCell' = true) ∧ (∀ t, t < (i + (n - j)) * 2 → arr'[t]? = if t < i * 2 then arr[t]? else arr[t + (j - i) * 2]?) := by
  obtain ⟨news, hnews⟩ : ∃ news, news = (arr.toList.drop (j * 2)).take ((n - j) * 2) := ⟨_, rfl⟩
  have hlen : news.length = (n - j) * 2 := by rw [hnews, List.length_take, List.length_drop, Array.length_toList, hsz]; omega
  have hget : ∀ t u, news[t]? = some u → arr[j * 2 + t]? = some u := fun t u h => by
    rw [hnews, List.getElem?_take] at h
    split at h
    · rwa [List.getElem?_drop, Array.getElem?_toList] at h
    · cases h
  have hone : ∀ u ∈ news, u.oneCell' = true := fun u hu => by
    obtain ⟨t, ht⟩ := List.getElem?_of_mem hu
    exact h1 u (Array.mem_of_getElem? (hget t u ht))
  obtain ⟨A, hA, hsrc⟩ : ∃ A : Addr, (if cap = j then some (⟨b, 0, none⟩ : Addr) else some ⟨b, j * 2, none⟩) = some A ∧ (∀ t u, news[t]? = some u → w.drew.cell? (A.add t) = some u) := by
    by_cases h : cap = j
    · refine ⟨⟨b, 0, none⟩, by simp [h], fun t u hu => ?_⟩
      have h0 : news.length = 0 := by rw [hlen]; omega
      rw [List.length_eq_zero_iff.1 h0] at hu
      simp at hu
    · refine ⟨⟨b, j * 2, none⟩, by simp [h], fun t u hu => ?_⟩
      rw [Addr.add_lit]
      show w.cell? ⟨b, j * 2 + t, none⟩ = some u
      simp [World.cell?, hg, hget t u hu]
  have hS : Src Tryz.prog 2 27 (.slice (some A) (n - j) (cap - j)) (n - j) news w.drew := Src.ofSlice (e' := 31) w.drew (by kernel_rfl) A (n - j) (cap - j) news hlen hsrc hone
  obtain ⟨ti, hti, htz⟩ : ∃ ti, Tryz.prog.info? 31 = some ti ∧ ti.size = 2 := by
    have h : szOf Tryz.prog 31 = some 2 := by kernel_rfl
    unfold szOf at h
    cases hq : Tryz.prog.info? 31 with
    | none => simp [hq] at h
    | some i => exact ⟨i, rfl, by simpa [hq] using h⟩
  have hg' : w.drew.heap[b]? = some (.cells arr 31 (0, 0)) := hg
  obtain ⟨arr1, ha1⟩ : ∃ arr1, arr1 = (arr.toList.take (i * 2) ++ news ++ arr.toList.drop (i * 2 + news.length)).toArray := ⟨_, rfl⟩
  have hap : ∀ ty, (Builtin.append_ #[27, 27] ty #[.slice (some ⟨b, 0, none⟩) i cap, .slice (some A) (n - j) (cap - j)]).run Tryz.prog w.drew = .ok (.slice (some ⟨b, 0, none⟩) (i + (n - j)) cap) (w.drew.setRow b arr1) := fun ty => by
    rw [ha1]
    have := run_append_room' (P := Tryz.prog) w.drew 27 27 ty 31 ti (by kernel_rfl) hti b i cap _ (n - j) news (htz ▸ hS) (by omega) arr hg' (by rw [htz, hlen, hsz]; omega)
    rw [htz] at this
    exact this
  have ha1s : arr1.size = cap * 2 := by rw [ha1]; simp; omega
  have hg1 := setRow_heap w.drew b arr arr1 31 (0, 0) hg'
  obtain ⟨W1, hW1⟩ : ∃ W1, W1 = w.drew.setRow b arr1 := ⟨_, rfl⟩
  rw [← hW1] at hap hg1
  have hz0 : ∃ z : Value, (∀ w, (zeroValue 31).run Tryz.prog w = .ok z w) ∧ z.cells = #[.int .i64 0, .int .i64 0] := ⟨_, fun w => Tryz.zeroValue31 w, rfl⟩
  obtain ⟨z, hz1, hz2⟩ := hz0
  obtain ⟨zs, hzs⟩ : ∃ zs, zs = (Builtin.zeroCells z.cells (j - i)).toList := ⟨_, rfl⟩
  have hzl : zs.length = (j - i) * 2 := by rw [hzs, hz2]; simp [Builtin.zeroCells]
  have hz3 : ∀ v ∈ zs, v.oneCell' = true := fun v hv => by
    rw [hzs, hz2] at hv
    simp [Builtin.zeroCells] at hv
    obtain ⟨k, hk, rfl⟩ := hv
    rcases Nat.mod_two_eq_zero_or_one k with e | e <;> simp [e, Value.oneCell']
  have hcl : ∀ ty, (Builtin.clear_ #[27] ty #[.slice (some ⟨b, (i + (n - j)) * 2, none⟩) (n - (i + (n - j))) (cap - (i + (n - j)))]).run Tryz.prog W1 = .ok (.tuple #[]) (W1.setRow b (arr1.toList.take ((i + (n - j)) * 2) ++ zs ++ arr1.toList.drop ((i + (n - j)) * 2 + zs.length)).toArray) := fun ty =>
    run_clear_row (P := Tryz.prog) W1 27 31 ty z (by kernel_rfl) hz1 zs (n - (i + (n - j))) (by rw [hzs, show n - (i + (n - j)) = j - i by omega]) hz3 b _ _ (by omega) arr1 hg1 (by rw [hzl, ha1s]; omega)
  have hic : i ≤ cap := by omega
  have hjc : j ≤ cap := by omega
  have hin : i ≤ n := by omega
  have hne : ¬ i = j := by omega
  have hX : Stay (W1 = w.drew.setRow b arr1) := hW1
  have hY : Stay (arr1 = (arr.toList.take (i * 2) ++ news ++ arr.toList.drop (i * 2 + news.length)).toArray) := ha1
  have hF : Stay (∀ t, t < (i + (n - j)) * 2 → arr1[t]? = if t < i * 2 then arr[t]? else arr[t + (j - i) * 2]?) := fun t ht => by
    rw [ha1]
    simp only [List.getElem?_toArray]
    by_cases c : t < i * 2
    · rw [if_pos c, List.append_assoc, List.getElem?_append_left (by simp; omega), List.getElem?_take, if_pos c, Array.getElem?_toList]
    · rw [if_neg c, List.append_assoc, List.getElem?_append_right (by simp; omega), List.length_take, Nat.min_eq_left (show i * 2 ≤ arr.toList.length by rw [Array.length_toList]; omega), List.getElem?_append_left (by omega), hnews, List.getElem?_take, if_pos (by omega), List.getElem?_drop, Array.getElem?_toList]
      congr 1
      omega
  have hG : Stay (∀ v ∈ arr1, v.oneCell' = true) := fun v hv => by
    rw [ha1] at hv
    simp only [List.mem_toArray, List.mem_append] at hv
    rcases hv with (hv | hv) | hv
    · exact h1 v (by simpa using List.mem_of_mem_take hv)
    · exact hone v hv
    · exact h1 v (by simpa using List.mem_of_mem_drop hv)
  have hZ : Stay (∀ v ∈ zs, v.oneCell' = true) := hz3
  clear hg hg' hW1 ha1 hS hnews hlen hget hone hsrc hg1 hzs hz2 hz3 hz1 h1
  go_enter Tryz.func190, Tryz.ntmps190
  go_wp2_with fail
  go_region_law (refine step_val rfl (w' := W1) (v := .slice (some ⟨b, 0, none⟩) (i + (n - j)) cap) (by simp [execOp, resolve, invoke, builtin, Act.eval, Act.put, hap]) ?_)
  go_wp2
  refine bodyPost_ret (v := .slice (some ⟨b, 0, none⟩) (i + (n - j)) cap) (by simp [results, Tryz.results190, go_sem, *] <;> rfl) rfl ?_
  refine ⟨rfl, _, by rw [Stay.out hX, setRow_setRow], ?_, ?_, fun t ht => ?_⟩
  · simp; omega
  · intro v hv
    simp only [List.mem_toArray, List.mem_append] at hv
    rcases hv with hv | hv | hv
    · exact Stay.out hG v (by simpa using List.mem_of_mem_take hv)
    · exact Stay.out hZ v hv
    · exact Stay.out hG v (by simpa using List.mem_of_mem_drop hv)
  · rw [← Stay.out hF t (by omega)]
    simp only [List.getElem?_toArray]
    rw [List.getElem?_append_left (by simp; omega), List.getElem?_take, if_pos (by omega), Array.getElem?_toList]
theorem delV_ic {H : Hp} {nx v : Nat} {L : List (List C)} {n i j : Nat} (hij : i < j) (hjn : j ≤ n) (hn : n ≤ L.length) (hv : H v = some ⟨.c 31, 2, L⟩) {K : D → Hp → Nat → Prop}
    (hK : K (.one (.own v 2 (i + (n - j)))) (H.set v (some ⟨.c 31, 2, L.take i ++ (L.drop j).take (n - j)⟩)) nx) :
    ICall Tryz.prog 190 [.one (.own v 2 n), dI i, dI j] H nx K :=
  ⟨by kernel_rfl, fun β F ι w vs hg hH hvs => by
    match vs, hvs with
    | [a, c, d], hvs =>
      simp only [RVs, RV, RC] at hvs
      obtain ⟨⟨b, cap, e1, e2, e3, e4⟩, h2, h3, -⟩ := hvs
      cases h2 with | lit _ => cases h3 with | lit _ =>
      have hc : 0 < cap := by omega
      rcases e4 with ⟨e, -⟩ | ⟨-, rfl⟩
      · omega
      obtain ⟨b', cap', g1, g2, g3, g4⟩ := hH.blk v _ hv
      rw [e1] at g1
      simp only [Option.some.injEq, Prod.mk.injEq] at g1
      obtain ⟨rfl, rfl⟩ := g1
      obtain ⟨arr, k1, k2, k3, k4⟩ := g4 hc
      simp only at g2 g3 k1 k2 k3 k4
      refine (delV_calls w b n cap i j arr k1 k2 k3 hij hjn (by omega) (by unfold maxLen at e3; omega)).mono ?_
      rintro e w' ⟨rfl, arr', rfl, p1, p2, p3⟩
      obtain ⟨d1, d2⟩ := hH.drew
      have hLi : (L.take i).length = i := by rw [List.length_take]; omega
      have hkk : ∀ d ∈ L.take i ++ (L.drop j).take (n - j), d.length = 2 := fun d hd => by
        rcases List.mem_append.1 hd with hd | hd
        · exact g3 d (List.mem_of_mem_take hd)
        · exact g3 d (List.mem_of_mem_drop (List.mem_of_mem_take hd))
      obtain ⟨q1, q2⟩ := d1.write (w' := w.drew.setRow b arr') hv e1 hc arr' ⟨.c 31, 2, L.take i ++ (L.drop j).take (n - j)⟩ (fun b' hb' => setRow_other w.drew b b' _ hb') (by simp) ⟨rfl, rfl, rfl⟩ (setRow_heap w.drew b arr _ _ _ k1)
        (by simp; omega) hkk p1 p2 (fun p q c hc => by
          have hc : nth2 (L.take i ++ (L.drop j).take (n - j)) p q = some c := hc
          show ∃ v, arr'[p * 2 + q]? = some v ∧ _
          have hlt := nth2_lt hc hkk
          rcases nth2_append hc with ⟨hp, hc⟩ | ⟨hp, hc⟩
          · rw [hLi] at hp
            have hc' : nth2 L p q = some c := by
              unfold nth2 at hc ⊢
              rwa [List.getElem?_take, if_pos hp] at hc
            obtain ⟨u, r1, r2⟩ := k4 p q c hc'
            exact ⟨u, by rw [p3 _ (by omega), if_pos (by omega)]; exact r1, r2.keep d2 (Nms.le_refl _)⟩
          · rw [hLi] at hp hc
            have hpn : p - i < n - j := by
              unfold nth2 at hc
              rw [List.getElem?_take] at hc
              split at hc
              · assumption
              · cases hc
            have hc' : nth2 L (j + (p - i)) q = some c := by
              unfold nth2 at hc ⊢
              rwa [List.getElem?_take, if_pos hpn, List.getElem?_drop] at hc
            obtain ⟨u, r1, r2⟩ := k4 _ q c hc'
            exact ⟨u, by rw [p3 _ (by omega), if_neg (by omega), show p * 2 + q + (j - i) * 2 = (j + (p - i)) * 2 + q by omega]; exact r1, r2.keep d2 (Nms.le_refl _)⟩)
      refine ⟨F, ι, _, nx, _, _, rfl, q1, ⟨fun _ h => h, fun _ h => h, fun b hb => (q2.f b hb).trans (d2.f b hb), fun b hb => (q2.b b hb).trans (d2.b b hb)⟩, Nms.le_refl _, ?_, hK⟩
      rw [RV, RC]
      exact ⟨b, cap, e1, by omega, e3, .inr ⟨hc, rfl⟩⟩
    | [], hvs => simp [RVs] at hvs
    | [_], hvs => simp [RVs] at hvs
    | [_, _], hvs => simp [RVs] at hvs
    | _ :: _ :: _ :: _ :: _, hvs => simp [RVs] at hvs⟩
def keepK (l : List GVal) (at' : Int) (key v : GVal) : List GVal :=
  if v = nilG then (if 0 ≤ at' then l.take at'.toNat ++ l.drop (at'.toNat + 2) else l) else if 0 ≤ at' then l.set (at'.toNat + 1) v else l ++ [key, v]
theorem keep_ic {H : Hp} {lo nx nS n : Nat} {A : Ad → Nat} {s : GState} (hnl : n < s.cells.length) (hvl : s.cells[n].vals.length ≤ 600) (at' : Int) (key v : GVal) (hat : at' = -1 ∨ ∃ j : Nat, at' = j ∧ j + 1 < s.cells[n].vals.length) (hSol : HSol H) (hO : OwnS H lo A s) (hS : H nS = some (stB A s)) (hSn : ∀ x, Live s x → A x ≠ nS) (hlo : lo ≤ nx) {K : D → Hp → Nat → Prop}
    (hK : CallK H nx lo nS A s (setV s ⟨5, n⟩ (keepK s.cells[n].vals at' key v), nilG, -1) (fun _ H' nx' => K (.tup []) H' nx')) :
    ICall Tryz.prog 136 [hpO nS, .one (.ptr (A .c) 4 n 0), dI at', aD (eVal key), aD (eVal v)] H nx K := by
  refine ICall.fresh (by kernel_rfl) fun hfr => ICall.cut ?_
  have n1 : ∀ x, Live s x → A x < nx := fun x hx => hO.lt hfr hx
  have pS := fresh_lt hfr hS
  refine fni_ok [0,1,2,3,4,8,9,21,40,44] [(6, [0,1,3,7,0,16,0,127,255], (.seg 0 (.seg 1 (.seg 2 (.seg 3 (.seg 4 (.seg 5 (.seg 6 (.seg 7 (.eff 8 [] .last)))))))))), (1, [0,0,2,6,14,0,0,96,254,511,1023,2047], (.seg 0 (.seg 1 (.seg 2 (.seg 3 (.seg 4 (.seg 5 (.seg 6 (.eff 7 [2, 3, 4] (.eff 8 [] (.seg 9 (.seg 10 (.eff 11 [] .last)))))))))))))] Tryz.func136 rfl (by kernel_rfl) rfl rfl rfl rfl (by kernel_rfl) ?_
  simp [Nat.add_assoc]
  have hM1 : OwnS (((H.set nx (some ⟨.c 65, 1, [[.ptr nS 8 0 0]]⟩)).set (nx + 1) (some ⟨.c 31, 2, [[.d (eI key.kind), .d (eI key.n)]]⟩)).set (nx + 2) (some ⟨.c 31, 2, [[.d (eI v.kind), .d (eI v.n)]]⟩)) lo A s := ((hO.set_low _ fun x hx => by have := n1 x hx; omega).set_low _ fun x hx => by have := n1 x hx; omega).set_low _ fun x hx => by have := n1 x hx; omega
  have hM2 : ∀ i, i < nx → (((H.set nx (some ⟨.c 65, 1, [[.ptr nS 8 0 0]]⟩)).set (nx + 1) (some ⟨.c 31, 2, [[.d (eI key.kind), .d (eI key.n)]]⟩)).set (nx + 2) (some ⟨.c 31, 2, [[.d (eI v.kind), .d (eI v.n)]]⟩)) i = H i := fun i hi => by rw [Hp.set_ne _ _ (by omega), Hp.set_ne _ _ (by omega), Hp.set_ne _ _ (by omega)]
  have hM3 : HSol (((H.set nx (some ⟨.c 65, 1, [[.ptr nS 8 0 0]]⟩)).set (nx + 1) (some ⟨.c 31, 2, [[.d (eI key.kind), .d (eI key.n)]]⟩)).set (nx + 2) (some ⟨.c 31, 2, [[.d (eI v.kind), .d (eI v.n)]]⟩)) := HSol.set (HSol.set (HSol.set hSol (by simp)) (by simp)) (by simp)
  have hM4 : ∀ i, nx + 3 ≤ i → (((H.set nx (some ⟨.c 65, 1, [[.ptr nS 8 0 0]]⟩)).set (nx + 1) (some ⟨.c 31, 2, [[.d (eI key.kind), .d (eI key.n)]]⟩)).set (nx + 2) (some ⟨.c 31, 2, [[.d (eI v.kind), .d (eI v.n)]]⟩)) i = none := fun i hi => by rw [Hp.set_ne _ _ (by omega), Hp.set_ne _ _ (by omega), Hp.set_ne _ _ (by omega)]; exact hfr i (by omega)
  have hM5 : (((H.set nx (some ⟨.c 65, 1, [[.ptr nS 8 0 0]]⟩)).set (nx + 1) (some ⟨.c 31, 2, [[.d (eI key.kind), .d (eI key.n)]]⟩)).set (nx + 2) (some ⟨.c 31, 2, [[.d (eI v.kind), .d (eI v.n)]]⟩)) (nx + 1) = some ⟨.c 31, 2, [[.d (eI key.kind), .d (eI key.n)]]⟩ := by simp
  have hM6 : (((H.set nx (some ⟨.c 65, 1, [[.ptr nS 8 0 0]]⟩)).set (nx + 1) (some ⟨.c 31, 2, [[.d (eI key.kind), .d (eI key.n)]]⟩)).set (nx + 2) (some ⟨.c 31, 2, [[.d (eI v.kind), .d (eI v.n)]]⟩)) (nx + 2) = some ⟨.c 31, 2, [[.d (eI v.kind), .d (eI v.n)]]⟩ := by simp
  generalize (((H.set nx (some ⟨.c 65, 1, [[.ptr nS 8 0 0]]⟩)).set (nx + 1) (some ⟨.c 31, 2, [[.d (eI key.kind), .d (eI key.n)]]⟩)).set (nx + 2) (some ⟨.c 31, 2, [[.d (eI v.kind), .d (eI v.n)]]⟩)) = M at *
  have hSM : M nS = some (stB A s) := by rw [hM2 nS pS]; exact hS
  have hsub : ∀ i y, H i = some y → M i = some y := fun i y hy => by rw [hM2 i (fresh_lt hfr hy)]; exact hy
  obtain ⟨R, r1, r2, r3⟩ := hO.ce
  obtain ⟨r4, r5⟩ := List.getElem?_eq_some_iff.1 (r3 n hnl)
  rw [oCe, ceR] at r5
  have m1 := n1 .c trivial
  have m2 := n1 (.cv n) hnl
  have hc1 := hSn .c trivial
  have hc2 := hSn (.cv n) hnl
  obtain ⟨ys, y1⟩ := hO.cv n hnl
  have R1 : M (A .c) = some ⟨.c 75, 4, R⟩ := by rw [hM2 _ m1]; exact r1
  have Y1 : M (A (.cv n)) = some (valBlk (s.cells[n].vals ++ ys)) := by rw [hM2 _ m2]; exact y1
  rw [valBlk] at y1
  have b1 : ¬ A .c = A (.cv n) := hM1.ne (x := .c) (y := .cv n) trivial hnl (by simp)
  have b2 : ¬ A (.cv n) = A .c := fun e => b1 e.symm
  have b3 : ¬ A .c = nx := by omega
  have b4 : ¬ A .c = nx + 1 := by omega
  have b5 : ¬ A .c = nx + 2 := by omega
  have b6 : ¬ A (.cv n) = nx := by omega
  have b7 : ¬ A (.cv n) = nx + 1 := by omega
  have b8 : ¬ A (.cv n) = nx + 2 := by omega
  have b9 : ¬ A .c = nx + 3 := by omega
  have b10 : ¬ A .c = nx + 4 := by omega
  have b11 : ¬ A (.cv n) = nx + 3 := by omega
  have b12 : ¬ A (.cv n) = nx + 4 := by omega
  have b13 : ¬ nx + 3 = A .c := by omega
  have b14 : ¬ nx + 3 = A (.cv n) := by omega
  have b15 : ¬ nx + 4 = A .c := by omega
  have b16 : ¬ nx + 4 = A (.cv n) := by omega
  obtain ⟨vk, vn⟩ := v
  by_cases hv : vk = 0 ∧ vn = 0
  · obtain ⟨rfl, rfl⟩ := hv
    rcases hat with rfl | ⟨j, rfl, hj⟩
    · have e : setV s ⟨5, n⟩ (keepK s.cells[n].vals (-1) key ⟨0, 0⟩) = s := by
        unfold keepK
        rw [if_pos rfl, if_neg (by decide)]
        unfold setV setCS
        simp only
        rw [at_nat hnl, Int.toNat_natCast]
        rw [show (⟨s.cells[n].kind, s.cells[n].num, s.cells[n].vals, s.cells[n].frames⟩ : GCell) = s.cells[n] from rfl, List.set_getElem_self]
      rw [e] at hK
      exact ⟨hM3, H, hsub, hK.same hfr hSol hO hS _ (by omega)⟩
    · have hw : IntKind.i64.wrap ((j : Int) + 2) = ((j + 2 : Nat) : Int) := by rw [wrap_id (by omega) (by omega)]; omega
      simp [r1, r4, r5, b1, b2, b3, b4, b5, b6, b7, b8, b9, b10, b11, b12, b13, b14, b15, b16, hw]
      rw [show ((j : Int) + 2) = ((j + 2 : Nat) : Int) by omega]
      refine delV_ic (L := (valBlk (s.cells[n].vals ++ ys)).es) (by omega) (by omega) (by simp [valBlk]) Y1 ?_
      obtain ⟨l', hl'⟩ : ∃ l', l' = s.cells[n].vals.take j ++ s.cells[n].vals.drop (j + 2) := ⟨_, rfl⟩
      have hll : l'.length = j + (s.cells[n].vals.length - (j + 2)) := by rw [hl']; simp; omega
      have e1 : List.take j (valBlk (s.cells[n].vals ++ ys)).es ++ List.take (s.cells[n].vals.length - (j + 2)) (List.drop (j + 2) (valBlk (s.cells[n].vals ++ ys)).es) = (valBlk l').es := by
        rw [hl']
        have t1 : (s.cells[n].vals ++ ys).take j = s.cells[n].vals.take j := List.take_append_of_le_length (by omega)
        have t2 : ((s.cells[n].vals ++ ys).drop (j + 2)).take (s.cells[n].vals.length - (j + 2)) = s.cells[n].vals.drop (j + 2) := by
          rw [List.drop_append_of_le_length (by omega), List.take_left' (by simp)]
        simp only [valBlk, ← List.map_take, ← List.map_drop, ← List.map_append]
        rw [t1, t2]
      have e2 : keepK s.cells[n].vals j key ⟨0, 0⟩ = l' := by
        unfold keepK
        rw [if_pos rfl, if_pos (by omega), Int.toNat_natCast, hl']
      rw [e1, ← hll]
      rw [e2] at hK
      clear e1 e2 hl'
      simp [R1, r4, r5, b1, b2, b3, b4, b5, b6, b7, b8, b9, b10, b11, b12, b13, b14, b15, b16]
      refine and_ofP ?_ fun hs => fin_vals (K := fun _ H' nx' => K (.tup []) H' nx') hM1 n1 hM2 hnl hSM pS hSn hlo R1 hK _ (nx + 3) (A (.cv n)) (by omega) (.inl rfl) hs (fun p h1 h2 h3 => ?_) (fun p h1 => ?_) ?_ ⟨[], ?_⟩
      · exact HSol.set (HSol.set hM3 (valBlk_new _).sol) (newRs.set r2 (by simp)).sol
      · repeat rw [Hp.set_ne _ _ (by first | assumption | omega)]
      · repeat rw [Hp.set_ne _ _ (by first | assumption | omega)]
        exact hM4 p (by omega)
      · repeat (first | rw [Hp.set_same] | rw [Hp.set_ne _ _ (by first | assumption | omega)])
      · repeat (first | rw [Hp.set_same] | rw [Hp.set_ne _ _ (by first | assumption | omega)])
        rw [List.append_nil]
        rfl
  · rcases hat with rfl | ⟨j, rfl, hj⟩
    · have e2 : keepK s.cells[n].vals (-1) key ⟨vk, vn⟩ = s.cells[n].vals ++ [key, ⟨vk, vn⟩] := by
        unfold keepK
        rw [if_neg (by simpa using hv), if_neg (by decide)]
      rw [e2] at hK
      have y1' := y1
      rw [List.map_append] at y1'
      simp [hv, r1, R1, Y1, r4, r5, y1, b1, b2, b3, b4, b5, b6, b7, b8, b9, b10, b11, b12, b13, b14, b15, b16]
      refine ⟨fun m b hm hb => ?_, .inl (by omega), and_ofP ?_ fun hs => fin_vals (K := fun _ H' nx' => K (.tup []) H' nx') hM1 n1 hM2 hnl hSM pS hSn hlo R1 hK _ (nx + 5) (nx + 4) (by omega) (.inr (by omega)) hs (fun p h1 h2 h3 => ?_) (fun p h1 => ?_) ?_ ⟨[], ?_⟩⟩
      · subst hm
        rw [if_neg b11, if_neg b8, if_neg b7, if_neg b6, y1] at hb
        simp only [Option.some.injEq] at hb
        subst hb
        exact ⟨rfl, rfl⟩
      · refine HSol.set (HSol.set (hsolN (HSol.set hM3 (by simp))) ?_) (newRs.set r2 (by simp)).sol
        intro e he c hc
        rcases List.mem_append.1 he with he | he
        · obtain ⟨u, -, rfl⟩ := List.mem_map.1 he
          simp at hc; rcases hc with rfl | rfl <;> rfl
        · simp at he
          rcases he with rfl | rfl <;> (simp at hc; rcases hc with rfl | rfl <;> rfl)
      · repeat rw [Hp.set_ne _ _ (by first | assumption | omega)]
      · repeat rw [Hp.set_ne _ _ (by first | assumption | omega)]
        exact hM4 p (by omega)
      · repeat (first | rw [Hp.set_same] | rw [Hp.set_ne _ _ (by first | assumption | omega)])
        simp
      · repeat (first | rw [Hp.set_same] | rw [Hp.set_ne _ _ (by first | assumption | omega)])
        simp [valBlk]
    · have hw : IntKind.i64.wrap ((j : Int) + 1) = ((j + 1 : Nat) : Int) := by rw [wrap_id (by omega) (by omega)]; omega
      have e2 : keepK s.cells[n].vals j key ⟨vk, vn⟩ = s.cells[n].vals.set (j + 1) ⟨vk, vn⟩ := by
        unfold keepK
        rw [if_neg (by simpa using hv), if_pos (by omega), Int.toNat_natCast]
      rw [e2] at hK
      have y2 := vrowG (ys := ys) hj
      have y3 := vrowS (ys := ys) hj ⟨vk, vn⟩
      rw [valBlk] at Y1
      generalize hL : ((s.cells[n].vals ++ ys).map fun v => (eVal v).map C.d) = L at *
      obtain ⟨y4, y5⟩ := List.getElem?_eq_some_iff.1 y2
      have h0 : (0 : Int) ≤ (j : Int) + 1 := by omega
      simp [hv, r1, R1, Y1, r4, r5, y1, y4, y5, hj, h0, b1, b2, b3, b4, b5, b6, b7, b8, b9, b10, b11, b12, b13, b14, b15, b16, hw]
      refine and_ofP ?_ fun hs => fin_vals (K := fun _ H' nx' => K (.tup []) H' nx') hM1 n1 hM2 hnl hSM pS hSn hlo R1 hK _ (nx + 3) (A (.cv n)) (by omega) (.inl rfl) hs (fun p h1 h2 h3 => ?_) (fun p h1 => ?_) ?_ ⟨ys, ?_⟩
      · exact HSol.set hM3 (by rw [y3]; exact (valBlk_new _).sol)
      · repeat rw [Hp.set_ne _ _ (by first | assumption | omega)]
      · repeat rw [Hp.set_ne _ _ (by first | assumption | omega)]
        exact hM4 p (by omega)
      · repeat (first | rw [Hp.set_same] | rw [Hp.set_ne _ _ (by first | assumption | omega)])
        rw [R1, List.length_set, ← r5, List.set_getElem_self]
      · rw [Hp.set_same, y3]
        rfl
theorem keepL_ic {H : Hp} {lo nx nS : Nat} {A : Ad → Nat} {s : GState} (hq : cellsQ wordsT s = 0) (S : Bool) (a key v : GVal) (ha : namesB s a 7 = true) (hSol : HSol H) (hO : OwnS H lo A s) (hS : H nS = some (stB A s)) (hSn : ∀ x, Live s x → A x ≠ nS) (hlo : lo ≤ nx) {K : D → Hp → Nat → Prop} (hK : CallK H nx lo nS A s (keepW s a key v) K) :
    ICall Tryz.prog 82 [hpO nS, dI 12, dL S [eVal a, eVal key, eVal v]] H nx K := by
  refine ICall.fresh (by kernel_rfl) fun hfr => ICall.cut ?_
  have n1 : ∀ x, Live s x → A x < nx := fun x hx => hO.lt hfr hx
  have pS := fresh_lt hfr hS
  obtain ⟨n, hnl, rfl, hat, hk⟩ := names_cell ha
  refine fni_ok [0,1,2,3,6,7,8,9,10,11,13,14,15,21,22,29,49,57,78,89,90,91,92,107,115,143,156,159,161] [(1, [0,0,2,6,15,31], (.seg 0 (.seg 1 (.seg 2 (.seg 3 (.eff 4 [] (.seg 5 .last))))))), (6, [0,0,2,6,14,0,32,96,224,510,1023,2047,4095], (.seg 0 (.seg 1 (.seg 2 (.seg 3 (.seg 4 (.seg 5 (.seg 6 (.seg 7 (.eff 8 [2, 3, 4] (.eff 9 [] (.seg 10 (.seg 11 (.eff 12 [] .last)))))))))))))), (17, [0,1,3,7,15,0,32,96,224,511,1023,0], (.seg 0 (.seg 1 (.seg 2 (.seg 3 (.seg 4 (.seg 5 (.seg 6 (.seg 7 (.seg 8 (.seg 11 (.eff 9 [] (.seg 10 .last))))))))))))), (26, [0,1,0,4,12,28,60,0,128,384,896,0,2048,6144,16256,32640,65532,131071,262143,524287], (.seg 0 (.seg 2 (.seg 3 (.seg 4 (.seg 5 (.seg 6 (.seg 7 (.seg 8 (.seg 9 (.seg 10 (.seg 11 (.seg 12 (.seg 13 (.seg 14 (.fork 1 [2, 3, 4, 5, 6, 8, 9, 10, 12, 13, 14] (.eff 15 [2, 3, 4, 5, 6] (.eff 16 [] (.seg 17 (.seg 18 (.eff 19 [] .last))))) (.eff 15 [0, 2, 3, 4, 5, 6] (.fork 1 [2, 3, 4, 5, 6] (.eff 16 [] (.seg 17 (.seg 18 (.eff 19 [] .last)))) (.eff 16 [0] (.eff 1 [] (.seg 17 (.seg 18 (.eff 19 [] .last))))))))))))))))))))))), (32, [0,1,3,7,0,31,63,0,128,384,1023], (.seg 0 (.seg 1 (.seg 2 (.seg 3 (.seg 4 (.seg 5 (.seg 6 (.seg 7 (.seg 8 (.seg 9 (.seg 10 .last)))))))))))), (38, [0,0,0,0,8,24,0,64,192,511], (.seg 0 (.seg 1 (.seg 2 (.seg 3 (.seg 4 (.seg 5 (.seg 6 (.seg 7 (.seg 8 (.eff 9 [] .last)))))))))))] Tryz.func82 rfl (by kernel_rfl) rfl rfl rfl rfl (by kernel_rfl) ?_
  simp [Nat.add_assoc]
  have hM1 : OwnS ((H.set nx (some ⟨.c 65, 1, [[.ptr nS 8 0 0]]⟩)).set (nx + 1) (some ⟨.c 31, 2, [[.d (.lit (.int .i64 0)), .d (.lit (.int .i64 0))]]⟩)) lo A s := (hO.set_low _ fun x hx => by have := n1 x hx; omega).set_low _ fun x hx => by have := n1 x hx; omega
  have hM2 : ∀ i, i < nx → ((H.set nx (some ⟨.c 65, 1, [[.ptr nS 8 0 0]]⟩)).set (nx + 1) (some ⟨.c 31, 2, [[.d (.lit (.int .i64 0)), .d (.lit (.int .i64 0))]]⟩)) i = H i := fun i hi => by rw [Hp.set_ne _ _ (by omega), Hp.set_ne _ _ (by omega)]
  have hM3 : HSol ((H.set nx (some ⟨.c 65, 1, [[.ptr nS 8 0 0]]⟩)).set (nx + 1) (some ⟨.c 31, 2, [[.d (.lit (.int .i64 0)), .d (.lit (.int .i64 0))]]⟩)) := HSol.set (HSol.set hSol (by simp)) (by simp)
  have hM4 : ∀ i, nx + 2 ≤ i → ((H.set nx (some ⟨.c 65, 1, [[.ptr nS 8 0 0]]⟩)).set (nx + 1) (some ⟨.c 31, 2, [[.d (.lit (.int .i64 0)), .d (.lit (.int .i64 0))]]⟩)) i = none := fun i hi => by rw [Hp.set_ne _ _ (by omega), Hp.set_ne _ _ (by omega)]; exact hfr i (by omega)
  have hM5 : ((H.set nx (some ⟨.c 65, 1, [[.ptr nS 8 0 0]]⟩)).set (nx + 1) (some ⟨.c 31, 2, [[.d (.lit (.int .i64 0)), .d (.lit (.int .i64 0))]]⟩)) nx = some ⟨.c 65, 1, [[.ptr nS 8 0 0]]⟩ := by simp
  have hM6 : ((H.set nx (some ⟨.c 65, 1, [[.ptr nS 8 0 0]]⟩)).set (nx + 1) (some ⟨.c 31, 2, [[.d (.lit (.int .i64 0)), .d (.lit (.int .i64 0))]]⟩)) (nx + 1) = some ⟨.c 31, 2, [[.d (.lit (.int .i64 0)), .d (.lit (.int .i64 0))]]⟩ := by simp
  generalize ((H.set nx (some ⟨.c 65, 1, [[.ptr nS 8 0 0]]⟩)).set (nx + 1) (some ⟨.c 31, 2, [[.d (.lit (.int .i64 0)), .d (.lit (.int .i64 0))]]⟩)) = M at *
  have hSM : M nS = some (stB A s) := by rw [hM2 nS pS]; exact hS
  have hsub : ∀ i y, H i = some y → M i = some y := fun i y hy => by rw [hM2 i (fresh_lt hfr hy)]; exact hy
  have hr : RefOk s ⟨5, n⟩ := fun _ => ⟨Int.natCast_nonneg n, by simpa using hnl⟩
  refine heapOfO_ic hM3 hM1 hSM ⟨5, n⟩ hr (fun _ nx1 hn1 => ?_) (fun h => absurd rfl h)
  rw [show (⟨5, (n : Int)⟩ : GVal).n.toNat = n from Int.toNat_natCast n]
  obtain ⟨R, r1, r2, r3⟩ := hM1.ce
  obtain ⟨r4, r5⟩ := List.getElem?_eq_some_iff.1 (r3 n hnl)
  rw [oCe, ceR] at r5
  have m1 := n1 .c trivial
  have m2 := n1 (.cv n) hnl
  have hc1 := hSn .c trivial
  have hc2 := hSn (.cv n) hnl
  have eB : ∀ c', stB A (s.setC n c') = stB A s := fun c' => by simp [stB, oRow, GState.setC]
  have hSM' := hSM
  rw [stB, oRow] at hSM'
  have hvl := (cell_vals hq hnl).2.2
  have b1 : ¬ A .c = nx1 := by omega
  have b2 : ¬ A .c = nx1 + 1 := by omega
  have b3 : ¬ A .c = nx + 1 := by omega
  have b4 : ¬ A (.cv n) = nx1 := by omega
  have b5 : ¬ A (.cv n) = nx1 + 1 := by omega
  have b6 : ¬ A (.cv n) = nx + 1 := by omega
  have b7 : ¬ nx + 1 = nx1 := by omega
  have b8 : ¬ nx + 1 = nx1 + 1 := by omega
  have b9 : ¬ nx + 1 = A .c := by omega
  have b10 : ¬ nx + 1 = A (.cv n) := by omega
  have b11 : ¬ A .c = A (.cv n) := hM1.ne (x := .c) (y := .cv n) trivial hnl (by simp)
  have b12 : ¬ A (.cv n) = A .c := fun e => b11 e.symm
  have b13 : ¬ nx1 + 1 = A .c := by omega
  have b14 : ¬ nx1 + 1 = nx + 1 := by omega
  have b15 : ¬ nx1 = A .c := by omega
  have b16 : ¬ nx1 = nx + 1 := by omega
  have b17 : ¬ nS = nx1 := by omega
  have b18 : ¬ nS = nx1 + 1 := by omega
  have b19 : ¬ nS = nx + 1 := by omega
  have b20 : ¬ nS = A .c := fun e => hc1 e.symm
  have b21 : ¬ nS = A (.cv n) := fun e => hc2 e.symm
  have b22 : ¬ nx = nx1 := by omega
  have b23 : ¬ nx = A .c := by omega
  have b24 : ¬ nx = nx + 1 := by omega
  obtain ⟨ys, y1⟩ := hM1.cv n hnl
  unfold keepW at hK
  rw [hat] at hK
  generalize hl : s.cells[n].vals = l at *
  simp
  refine loopH_ok (ks := [0,1,2,3,6,7,8,9,10,11,13,14,15,21,22,29,49,57,78,89,90,91,92,107,115,143,156,159,161]) (pl := [(1, [0,0,2,6,15,31], (.seg 0 (.seg 1 (.seg 2 (.seg 3 (.eff 4 [] (.seg 5 .last))))))), (6, [0,0,2,6,14,0,32,96,224,510,1023,2047,4095], (.seg 0 (.seg 1 (.seg 2 (.seg 3 (.seg 4 (.seg 5 (.seg 6 (.seg 7 (.eff 8 [2, 3, 4] (.eff 9 [] (.seg 10 (.seg 11 (.eff 12 [] .last)))))))))))))), (17, [0,1,3,7,15,0,32,96,224,511,1023,0], (.seg 0 (.seg 1 (.seg 2 (.seg 3 (.seg 4 (.seg 5 (.seg 6 (.seg 7 (.seg 8 (.seg 11 (.eff 9 [] (.seg 10 .last))))))))))))), (26, [0,1,0,4,12,28,60,0,128,384,896,0,2048,6144,16256,32640,65532,131071,262143,524287], (.seg 0 (.seg 2 (.seg 3 (.seg 4 (.seg 5 (.seg 6 (.seg 7 (.seg 8 (.seg 9 (.seg 10 (.seg 11 (.seg 12 (.seg 13 (.seg 14 (.fork 1 [2, 3, 4, 5, 6, 8, 9, 10, 12, 13, 14] (.eff 15 [2, 3, 4, 5, 6] (.eff 16 [] (.seg 17 (.seg 18 (.eff 19 [] .last))))) (.eff 15 [0, 2, 3, 4, 5, 6] (.fork 1 [2, 3, 4, 5, 6] (.eff 16 [] (.seg 17 (.seg 18 (.eff 19 [] .last)))) (.eff 16 [0] (.eff 1 [] (.seg 17 (.seg 18 (.eff 19 [] .last))))))))))))))))))))))), (32, [0,1,3,7,0,31,63,0,128,384,1023], (.seg 0 (.seg 1 (.seg 2 (.seg 3 (.seg 4 (.seg 5 (.seg 6 (.seg 7 (.seg 8 (.seg 9 (.seg 10 .last)))))))))))), (38, [0,0,0,0,8,24,0,64,192,511], (.seg 0 (.seg 1 (.seg 2 (.seg 3 (.seg 4 (.seg 5 (.seg 6 (.seg 7 (.seg 8 (.eff 9 [] .last)))))))))))]) (n0 := 182) (α := {j : Nat // 2 * j ≤ l.length + 1}) (fun x => [(14, dI (keyAtK l key x.1)), (15, dI ((2 * x.1 : Nat) : Int))]) (fun H _ => H) (fun _ => nx1) (fun x => l.length + 2 - 2 * x.1) ⟨0, by omega⟩ rfl (by kernel_rfl) (Wk.sub (by simp [keyAtK])) ?_
  rintro ⟨j, hj⟩
  rw [valBlk] at y1
  by_cases h1 : 2 * j < l.length
  · have h1' : 2 * (j : Int) < (l.length : Int) := by omega
    have y2 := vrowG (ys := ys) h1
    generalize hL : ((l ++ ys).map fun v => (eVal v).map C.d) = L at *
    obtain ⟨y4, y5⟩ := List.getElem?_eq_some_iff.1 y2
    have hv : valAt l (2 * j) = l[2 * j] := by simp [valAt, List.getD_eq_getElem?_getD, h1]
    have hw : IntKind.i64.wrap (2 * (j : Int) + 2) = ((2 * (j + 1) : Nat) : Int) := by rw [wrap_id (by omega) (by omega)]; omega
    obtain ⟨w, hwe⟩ : ∃ w, w = l[2 * j] := ⟨_, rfl⟩
    rw [← hwe] at y5 hv
    have htn : (2 * (j : Int)).toNat = 2 * j := by omega
    have h0 : 0 ≤ 2 * (j : Int) := by omega
    simp [h1, h1', r1, r4, r5, y1, y4, y5, hw, htn, h0]
    intro _
    have ke : keyAtK l key (j + 1) = if w = key then ((2 * j : Nat) : Int) else keyAtK l key j := by rw [keyAtK, hv]
    refine alt (fun e => ?_) (fun e => ?_)
    · have e' : w = key := by cases w; cases key; simp_all
      rw [if_pos e'] at ke
      exact ⟨j + 1, by omega, by omega, Wk.sub (by simp [ke])⟩
    · have e' : ¬ w = key := fun h => e ⟨by rw [h], by rw [h]⟩
      rw [if_neg e'] at ke
      exact ⟨j + 1, by omega, by omega, Wk.sub (by simp [ke])⟩
  · have h1' : ¬ 2 * (j : Int) < (l.length : Int) := by omega
    obtain ⟨d, -, -, -⟩ := heap_cell hq hnl
    obtain ⟨g1, -, -, -⟩ := cellB_parts d
    obtain ⟨-, w2⟩ := kind_weak g1 hk
    rw [hl] at w2
    obtain ⟨ps, hps, -, -⟩ := weak_iff.1 w2
    have hpl : l.length = 2 * ps.length := by rw [hps, unp_len]
    obtain rfl : j = ps.length := by omega
    have hkey : keyAtK l key ps.length = keyAt l key := by
      unfold keyAt
      rw [hpl, show (2 * ps.length + 1) / 2 = ps.length by omega]
    rw [hkey]
    have hsp := keyAt_spec ps key
    rw [← hps] at hsp
    have hat2 : keyAt l key = -1 ∨ ∃ j : Nat, keyAt l key = j ∧ j + 1 < l.length := by
      rcases hsp with h | ⟨i, hi, -, hi2⟩
      · exact .inl h.1
      · exact .inr ⟨2 * i, hi2, by omega⟩
    simp [h1, h1', r1, r4, r5, hM5, hM6]
    intro _
    subst hl
    refine keep_ic hnl hvl (keyAt s.cells[n].vals key) key v hat2 hM3 hM1 hSM hSn (by omega) ⟨fun h => absurd h (by simp), fun _ H3 nx3 A3 hn3 low3 high3 sol3 O3 S3 lv3 => ?_⟩
    have r6 : H3 (nx + 1) = some ⟨.c 31, 2, [[.d (.lit (.int .i64 0)), .d (.lit (.int .i64 0))]]⟩ := by rw [low3 _ (by omega) (fun x hx => by have := n1 x hx; omega) (by omega)]; exact hM6
    simp [r6]
    have hA : ∀ x, Live (setV s ⟨5, n⟩ (keepL s.cells[n].vals key v)) x → A3 x ≠ nx + 1 := fun x hx => by
      rcases lv3 x hx with ⟨y, hy, e⟩ | e
      · have := n1 y hy; omega
      · omega
    refine ⟨HSol.set sol3 (by simp), _, fun _ _ h => h, hK.ok rfl _ nx3 A3 (by omega) (fun p h1 h2 h3 => ?_) (fun p hp => ?_) (HSol.set sol3 (by simp)) (O3.set_low _ hA) ?_ fun x hx => ?_⟩
    · rw [Hp.set_ne _ _ (by omega), low3 p (by omega) h2 h3, hM2 p h1]
    · rw [Hp.set_ne _ _ (by omega)]; exact high3 p hp
    · rw [Hp.set_ne _ _ (by omega)]; exact S3
    · rcases lv3 x hx with h | e
      · exact .inl h
      · exact .inr (by omega)
theorem heapCallKp_ic {H : Hp} {lo nx nS : Nat} {A : Ad → Nat} {s : GState} (hq : cellsQ wordsT s = 0) (S : Bool) (call : Int) (hcall : call = 12) (args : List GVal) (hf : ∀ v ∈ args, fitsB s v = true) (hSol : HSol H) (hO : OwnS H lo A s) (hS : H nS = some (stB A s)) (hSn : ∀ x, Live s x → A x ≠ nS) (hlo : lo ≤ nx) {K : D → Hp → Nat → Prop} (hK : CallK H nx lo nS A s (callW s call args) K) :
    ICall Tryz.prog 25 [hpO nS, dI call, dL S (args.map eVal)] H nx K := by
  refine ICall.fresh (by kernel_rfl) fun hfr => ICall.cut ?_
  have n1 : ∀ x, Live s x → A x < nx := fun x hx => hO.lt hfr hx
  have pS := fresh_lt hfr hS
  refine fni_ok [0,1,2,3,6,7,8,9,10,11,12,18,22,29,30,31,32,42,45,46,55,66,74,84,99,104,116,123,130] [(9, [0,0,0,6,0,31,63], (.seg 0 (.seg 1 (.seg 2 (.seg 3 (.seg 4 (.eff 5 [] (.seg 6 .last)))))))), (14, [0,0,2,6,15,31,31,127,255], (.seg 0 (.seg 1 (.seg 2 (.seg 3 (.eff 4 [] (.seg 5 (.seg 6 (.eff 7 [] (.seg 8 .last)))))))))), (16, [0,0,0,4,12,30,63,127,127,511,1023], (.seg 0 (.seg 1 (.seg 2 (.seg 3 (.seg 4 (.eff 5 [0] (.eff 6 [] (.seg 7 (.seg 8 (.eff 9 [] (.seg 10 .last)))))))))))), (18, [0,0,2,6,15,31,63,127], (.seg 0 (.seg 1 (.seg 2 (.seg 3 (.eff 4 [] (.seg 5 (.eff 6 [] (.seg 7 .last))))))))), (27, [0,0,2,6,15,31,63,127,255,511,1023,2047], (.seg 0 (.seg 1 (.seg 2 (.seg 3 (.eff 4 [] (.seg 5 (.seg 6 (.seg 7 (.seg 8 (.eff 9 [] (.eff 10 [] (.seg 11 .last)))))))))))))] Tryz.func25 rfl (by kernel_rfl) rfl rfl rfl rfl (by kernel_rfl) ?_
  simp [Nat.add_assoc]
  have hM1 : OwnS ((H.set nx (some ⟨.c 65, 1, [[.ptr nS 8 0 0]]⟩)).set (nx + 1) (some ⟨.c 31, 2, [[.d (.lit (.int .i64 0)), .d (.lit (.int .i64 0))]]⟩)) lo A s := (hO.set_low _ fun x hx => by have := n1 x hx; omega).set_low _ fun x hx => by have := n1 x hx; omega
  have hM2 : ∀ i, i < nx → ((H.set nx (some ⟨.c 65, 1, [[.ptr nS 8 0 0]]⟩)).set (nx + 1) (some ⟨.c 31, 2, [[.d (.lit (.int .i64 0)), .d (.lit (.int .i64 0))]]⟩)) i = H i := fun i hi => by rw [Hp.set_ne _ _ (by omega), Hp.set_ne _ _ (by omega)]
  have hM3 : HSol ((H.set nx (some ⟨.c 65, 1, [[.ptr nS 8 0 0]]⟩)).set (nx + 1) (some ⟨.c 31, 2, [[.d (.lit (.int .i64 0)), .d (.lit (.int .i64 0))]]⟩)) := HSol.set (HSol.set hSol (by simp)) (by simp)
  have hM5 : ((H.set nx (some ⟨.c 65, 1, [[.ptr nS 8 0 0]]⟩)).set (nx + 1) (some ⟨.c 31, 2, [[.d (.lit (.int .i64 0)), .d (.lit (.int .i64 0))]]⟩)) nx = some ⟨.c 65, 1, [[.ptr nS 8 0 0]]⟩ := by simp
  have hM6 : ((H.set nx (some ⟨.c 65, 1, [[.ptr nS 8 0 0]]⟩)).set (nx + 1) (some ⟨.c 31, 2, [[.d (.lit (.int .i64 0)), .d (.lit (.int .i64 0))]]⟩)) (nx + 1) = some ⟨.c 31, 2, [[.d (.lit (.int .i64 0)), .d (.lit (.int .i64 0))]]⟩ := by simp
  generalize ((H.set nx (some ⟨.c 65, 1, [[.ptr nS 8 0 0]]⟩)).set (nx + 1) (some ⟨.c 31, 2, [[.d (.lit (.int .i64 0)), .d (.lit (.int .i64 0))]]⟩)) = M at *
  have hsub : ∀ i y, H i = some y → M i = some y := fun i y hy => by rw [hM2 i (fresh_lt hfr hy)]; exact hy
  have hsub1 : ∀ (B : Blk) i y, H i = some y → (M.set (nx + 1) (some B)) i = some y := fun B i y hy => by rw [Hp.set_ne _ _ (by have := fresh_lt hfr hy; omega)]; exact hsub i y hy
  by_cases hc : call < 0 ∨ 16 ≤ call
  · have e : callW s call args = (s, nilG, 0) := by unfold callW; rw [if_pos hc]
    rw [e] at hK
    refine cform_no call hc ?_
    simp [hM6]
    exact ⟨HSol.set hM3 (by simp), H, hsub1 _, hK.bad (by simp) _ (by omega)⟩
  obtain ⟨c, rfl⟩ : ∃ c : Nat, call = c := ⟨call.toNat, by omega⟩
  have hc16 : c < 16 := by omega
  refine cform_ok c hc16 ?_
  have hf3 : (formB c).length ≤ 3 := by
    have : c = 0 ∨ c = 1 ∨ c = 2 ∨ c = 3 ∨ c = 4 ∨ c = 5 ∨ c = 6 ∨ c = 7 ∨ c = 8 ∨ c = 9 ∨ c = 10 ∨ c = 11 ∨ c = 12 ∨ c = 13 ∨ c = 14 ∨ c = 15 := by omega
    rcases this with rfl | rfl | rfl | rfl | rfl | rfl | rfl | rfl | rfl | rfl | rfl | rfl | rfl | rfl | rfl | rfl <;> decide
  have hsz : (⟨(formB c).toArray⟩ : ByteArray).size = (formB c).length := by simp [ByteArray.size]
  by_cases hl : args.length = (formB c).length
  case neg =>
    have e : callW s c args = (s, nilG, 7) := by unfold callW; rw [if_neg hc, if_pos (by simpa using hl)]
    rw [e] at hK
    have hl' : ¬ (args.length : Int) = ((formB c).length : Int) := by omega
    simp [hM6, hl, hl', hsz]
    intros
    exact ⟨HSol.set hM3 (by simp), H, hsub1 _, hK.bad (by simp) _ (by omega)⟩
  obtain ⟨f, hfm⟩ : ∃ f, f = formB c := ⟨_, rfl⟩
  rw [← hfm] at hl hf3 hsz ⊢
  simp [hl, hsz]
  intro _
  refine loopH_ok (ks := [0,1,2,3,6,7,8,9,10,11,12,18,22,29,30,31,32,42,45,46,55,66,74,84,99,104,116,123,130]) (pl := [(9, [0,0,0,6,0,31,63], (.seg 0 (.seg 1 (.seg 2 (.seg 3 (.seg 4 (.eff 5 [] (.seg 6 .last)))))))), (14, [0,0,2,6,15,31,31,127,255], (.seg 0 (.seg 1 (.seg 2 (.seg 3 (.eff 4 [] (.seg 5 (.seg 6 (.eff 7 [] (.seg 8 .last)))))))))), (16, [0,0,0,4,12,30,63,127,127,511,1023], (.seg 0 (.seg 1 (.seg 2 (.seg 3 (.seg 4 (.eff 5 [0] (.eff 6 [] (.seg 7 (.seg 8 (.eff 9 [] (.seg 10 .last)))))))))))), (18, [0,0,2,6,15,31,63,127], (.seg 0 (.seg 1 (.seg 2 (.seg 3 (.eff 4 [] (.seg 5 (.eff 6 [] (.seg 7 .last))))))))), (27, [0,0,2,6,15,31,63,127,255,511,1023,2047], (.seg 0 (.seg 1 (.seg 2 (.seg 3 (.eff 4 [] (.seg 5 (.seg 6 (.seg 7 (.seg 8 (.eff 9 [] (.eff 10 [] (.seg 11 .last)))))))))))))]) (n0 := 140) (α := {x : HcS // HcI M (nx + 2) s args f x}) (fun x => [(31, dI x.1.k)]) (fun _ x => x.1.H) (fun x => x.1.nx) (fun x => args.length - x.1.k) ⟨⟨0, M, nx + 2⟩, ⟨Nat.zero_le _, Nat.le_refl _, fun _ _ => rfl, hM3, fun i h => absurd h (Nat.not_lt_zero _)⟩⟩ rfl (by kernel_rfl) (Wk.sub (by simp)) ?_
  rintro ⟨⟨k, H2, nx2⟩, hI⟩
  obtain ⟨hk, hn, hlow, hsol, hall⟩ := hI
  simp only at hk hn hlow hsol hall
  have q5 : H2 nx = some ⟨.c 65, 1, [[.ptr nS 8 0 0]]⟩ := by rw [hlow nx (by omega)]; exact hM5
  have q6 : H2 (nx + 1) = some ⟨.c 31, 2, [[.d (.lit (.int .i64 0)), .d (.lit (.int .i64 0))]]⟩ := by rw [hlow (nx + 1) (by omega)]; exact hM6
  have qS : H2 nS = some (stB A s) := by rw [hlow nS (by omega), hM2 nS pS]; exact hS
  have qO : OwnS H2 lo A s := hM1.low fun x hx => hlow _ (by have := n1 x hx; omega)
  have qsub : ∀ i y, H i = some y → H2 i = some y := fun i y hy => by rw [hlow i (by have := fresh_lt hfr hy; omega)]; exact hsub i y hy
  have qsub1 : ∀ (B : Blk) i y, H i = some y → (H2.set (nx + 1) (some B)) i = some y := fun B i y hy => by rw [Hp.set_ne _ _ (by have := fresh_lt hfr hy; omega)]; exact qsub i y hy
  by_cases h1 : k < f.length
  · have h1' : (k : Int) < (f.length : Int) := by omega
    have h2 : k < args.length := by omega
    have d1 : ¬ nx = nx2 := by omega
    have d2 : ¬ nx + 1 = nx2 := by omega
    have d3 : ¬ nS = nx2 := by omega
    simp [h1, h1', h2, q5, d1, d2]
    have solV : HSol (H2.set nx2 (some ⟨.c 31, 2, [[.d (eI args[k].kind), .d (eI args[k].n)]]⟩)) := hsol.set (by simp)
    have oV : OwnS (H2.set nx2 (some ⟨.c 31, 2, [[.d (eI args[k].kind), .d (eI args[k].n)]]⟩)) lo A s := qO.set_low _ fun x hx => by have := n1 x hx; omega
    have sV : (H2.set nx2 (some ⟨.c 31, 2, [[.d (eI args[k].kind), .d (eI args[k].n)]]⟩)) nS = some (stB A s) := by rw [Hp.set_ne _ _ d3]; exact qS
    refine ICall.lendL (es := [hpD true s, .one (.d (.lit (.int .u8 f[k].toNat))), aD (eVal args[k])]) ⟨heap_shw oV sV, ⟨_, rfl, .d rfl⟩, val_shw _, trivial⟩ (heapFits_ok s f[k] args[k] ⟨by simp, ?_⟩)
    have ea : argB s (f.getD k 0) (valAt args k) = argB s f[k] args[k] := by simp [valAt, List.getD_eq_getElem?_getD, h1, h2]
    cases hb : argB s f[k] args[k] with
    | false =>
      have e : callW s c args = (s, nilG, 0) := by
        unfold callW
        rw [if_neg hc, Int.toNat_natCast, ← hfm, if_neg (by omega), if_pos ?_]
        rw [Bool.eq_false_iff]
        intro h
        have := (argsB_all hl).1 h k h2
        rw [ea, hb] at this
        cases this
      rw [e] at hK
      simp [q6, d2]
      exact ⟨HSol.set solV (by simp), H, fun i y hy => by rw [Hp.set_ne _ _ (by have := fresh_lt hfr hy; omega), Hp.set_ne _ _ (by have := fresh_lt hfr hy; omega)]; exact qsub i y hy, hK.bad (by simp) _ (by omega)⟩
    | true =>
      simp
      exact ⟨⟨k + 1, H2.set nx2 (some ⟨.c 31, 2, [[.d (eI args[k].kind), .d (eI args[k].n)]]⟩), nx2 + 1⟩, by simp only; omega, ⟨by simp only; omega, by simp only; omega, fun i hi => by simp only; rw [Hp.set_ne _ _ (by omega)]; exact hlow i hi, solV, fun i hi => by
        simp only at hi
        by_cases hik : i = k
        · subst hik; rw [ea]; exact hb
        · exact hall i (by omega)⟩, Wk.sub (by simp [wrap_add (show k < 9223372036854775807 by omega)])⟩
  have hk1 : k = args.length := by omega
  have hab : argsB s f args = true := (argsB_all hl).2 fun i hi => hall i (by omega)
  have e : callW s c args = callR s c args := by rw [hfm] at hl hab; exact callW_at hc16 hl hab
  rw [e] at hK
  have h1' : ¬ (k : Int) < (f.length : Int) := by omega
  have fin : ∀ (H3 : Hp) (nx3 : Nat) (A3 : Ad → Nat) (B : Blk), newRs B.es → nx2 ≤ nx3 → (∀ q, q < nx2 → (∀ x, Live s x → q ≠ A x) → q ≠ nS → H3 q = H2 q) → (∀ q, nx3 ≤ q → H3 q = none) → HSol H3 → OwnS H3 lo A3 (callR s c args).1 → H3 nS = some (stB A3 (callR s c args).1) → (∀ x, Live (callR s c args).1 x → (∃ y, Live s y ∧ A3 x = A y) ∨ nx2 ≤ A3 x) → (callR s c args).2.2 = -1 →
      HSol (H3.set (nx + 1) (some B)) ∧ cutK K (.tup [aD (eVal (callR s c args).2.1), dI (-1)]) (H3.set (nx + 1) (some B)) nx3 := by
    intro H3 nx3 A3 B hB g1 g2 g3 g4 g5 g6 g7 g8
    have hA : ∀ x, Live (callR s c args).1 x → A3 x ≠ nx + 1 := fun x hx => by
      rcases g7 x hx with ⟨y, hy, e⟩ | e
      · have := n1 y hy; omega
      · omega
    have g9 : HSol (H3.set (nx + 1) (some B)) := HSol.set g4 hB.sol
    refine ⟨g9, _, fun _ _ h => h, hK.ok g8 _ nx3 A3 (by omega) (fun q h1 h2 h3 => ?_) (fun q hq => ?_) g9 (g5.set_low _ hA) ?_ fun x hx => ?_⟩
    · rw [Hp.set_ne _ _ (by omega), g2 q (by omega) h2 h3, hlow q (by omega), hM2 q h1]
    · rw [Hp.set_ne _ _ (by omega)]; exact g3 q hq
    · rw [Hp.set_ne _ _ (by omega)]; exact g6
    · rcases g7 x hx with h | h
      · exact .inl h
      · exact .inr (by omega)
  obtain rfl : c = 12 := by omega
  obtain ⟨a, key, v, rfl⟩ : ∃ a key v, args = [a, key, v] := len_three (by rw [hl, hfm]; rfl)
  subst hfm
  simp only [callR, valAt, List.getD_cons_zero, List.getD_cons_succ] at hK fin
  simp only [formB, List.length_cons, List.length_nil] at *
  obtain rfl : k = 3 := by omega
  have ha : namesB s a 7 = true := by
    simp [argsB, formB] at hab
    exact argB_w ▸ hab.1
  simp [q5]
  refine keepL_ic hq S a key v ha hsol qO qS hSn (by omega) ⟨fun he nx3 hn3 => ?_, fun he H3 nx3 A3 hn3 low3 high3 sol3 O3 S3 lv3 => ?_⟩
  · simp [q6]
    exact ⟨HSol.set hsol (by simp), H, qsub1 _, hK.bad he _ (by omega)⟩
  · have r6 : H3 (nx + 1) = some ⟨.c 31, 2, [[.d (.lit (.int .i64 0)), .d (.lit (.int .i64 0))]]⟩ := by rw [low3 _ (by omega) (fun x hx => by have := n1 x hx; omega) (by omega)]; exact q6
    simp [r6]
    exact fin H3 nx3 A3 _ (by simp [newRs]) hn3 low3 high3 sol3 O3 S3 lv3 he
theorem hcKp : HcOk 12 := fun hq _ S args hf hSol hO hS hSn hlo _ hK => heapCallKp_ic hq S 12 rfl args hf hSol hO hS hSn hlo hK
end Go.Proofs.YtbphdcffpobcbaaGreatDoor
