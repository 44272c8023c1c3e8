/- Several texts in one. -/
import Derived.Test.YtbphdcffpobcbaaGreatDoorMld
set_option linter.unusedSimpArgs false
set_option linter.unusedVariables false
set_option maxRecDepth 100000
set_option maxHeartbeats 16000000
namespace Go.Proofs.YtbphdcffpobcbaaGreatDoor
open Go.RowKit Go
theorem same_nearest (n : Int) : same (FloatKind.f64.nearest n) (FloatKind.f64.nearest n) = true := by
  have h : ∀ s t, Ieee.double.read (FloatKind.f64.nearest n) ≠ .nan s t := by
    intro s t
    have e : FloatKind.f64.nearest n = Ieee.double.write (.number (decide (n < 0)) n.natAbs 0) := rfl
    rw [e]
    rcases Nat.lt_or_ge n.natAbs 9007199254740992 with h | h
    · obtain ⟨m, i, h1, -⟩ := Flt.write_small (decide (n < 0)) h
      have h1 : Ieee.double.read (Ieee.double.write (.number (decide (n < 0)) n.natAbs 0)) = _ := h1
      rw [h1]; intro e; cases e
    · rcases Flt.write_great (decide (n < 0)) h with h1 | ⟨m, i, h1, -⟩
      · have h1 : Ieee.double.read (Ieee.double.write (.number (decide (n < 0)) n.natAbs 0)) = _ := h1
        rw [h1]; intro e; cases e
      · have h1 : Ieee.double.read (Ieee.double.write (.number (decide (n < 0)) n.natAbs 0)) = _ := h1
        rw [h1]; intro e; cases e
  have := Flt.order_self h
  show (Ieee.double.order _ _ == some .eq) = true
  rw [show Ieee.double.order (FloatKind.f64.nearest n) (FloatKind.f64.nearest n) = some .eq from this]
  rfl
theorem ofN_nearest (n : Int) : ofN (FloatKind.f64.nearest n) = IntKind.i64.wrap (FloatKind.f64.nearest n) := by
  unfold ofN
  rw [if_pos (same_nearest n)]
  simp [IntWalk.i64_left]
def ordB (x : Nat) : Bool := (Ieee.double.order x 4746794007248502784 == some Ordering.gt || Ieee.double.order x 4746794007248502784 == some Ordering.eq) || (Ieee.double.order x 13970166044105375744 == some Ordering.lt || Ieee.double.order x 13970166044105375744 == some Ordering.eq)
theorem trc_doc (n : Int) : (∀ N, trcW n = some N → same (flt n) (flt n) = true ∧ ordB (flt n) = false ∧ (Ieee.double.read (flt n)).toInt .zero = some N ∧ -2147483648 ≤ N ∧ N ≤ 2147483647) ∧ (trcW n = none → same (flt n) (flt n) = true → ordB (flt n) = true) := by
  unfold trcW
  have e : (IntKind.u64.wrap n).toNat = flt n := rfl
  rw [e]
  cases h : Ieee.double.read (flt n) with
  | nan s t =>
    refine ⟨fun N hN => (by cases hN), fun _ hs => ?_⟩
    unfold same at hs
    have h2 : (Ieee.double.order (flt n) (flt n) == some .eq) = true := hs
    rw [Flt.order_nan h] at h2
    cases h2
  | infinity s => exact ⟨fun N hN => (by cases hN), fun _ _ => Flt.doc_inf h⟩
  | number s m i =>
    have hd : ordB (flt n) = !Flt.inW (Flt.sv s (Flt.whole m i)) := Flt.doc_number h
    simp only
    by_cases hi : Flt.inW (Flt.sv s (Flt.whole m i)) = true
    · rw [if_pos hi]
      refine ⟨fun N hN => ?_, fun hN => (by cases hN)⟩
      simp only [Option.some.injEq] at hN
      subst hN
      refine ⟨?_, by rw [hd, hi]; rfl, ?_, ?_⟩
      · have := Flt.order_self (x := flt n) (fun s' t' e' => by have e' : Ieee.double.read (flt n) = _ := e'; rw [h] at e'; cases e')
        show (Ieee.double.order _ _ == some .eq) = true
        rw [show Ieee.double.order (flt n) (flt n) = some .eq from this]
        rfl
      · rw [Flt.toInt_eq, Flt.sgn_sv]
        simp
      · simpa [Flt.inW] using hi
    · rw [if_neg hi]
      rw [Bool.not_eq_true] at hi
      exact ⟨fun N hN => (by cases hN), fun _ _ => by rw [hd, hi]; rfl⟩
theorem floatD_ok (b : Nat) {K : D → List Blk → Prop} (h : K (dV 3 (ofN b)) []) : DPure Tryz.prog 38 [dF b] K := by
  refine fn_ok [0,2,3,9] [] Tryz.func38 rfl (by kernel_rfl) rfl rfl rfl rfl (by kernel_rfl) ?_
  simp
  refine isNaN_ok _ ?_
  simp
  repeat' (first | (refine alt (fun _ => ?_) (fun _ => ?_)) | (intro _) | fail)
  all_goals exact kD h (by simp_all [ofN, theNaN, IntWalk.i64_left])
theorem callIn6 (s : GState) (hq : cellsQ wordsT s = 0) (args : List GVal) (hf : ∀ v ∈ args, fitsB s v = true) {K : D → List Blk → Prop} (h : K (.tup [aD (eState (callW s (6 : Nat) args).1), aD (eVal (callW s (6 : Nat) args).2.1), dI (callW s (6 : Nat) args).2.2]) []) :
    DPure Tryz.prog 8 [aD (eState s), dI (6 : Nat), dL true (args.map eVal)] K := by
  refine DPure.ofI ?_
  have same : ∀ (X : Hp) (v : GVal) (e : Int), HSol X → K (.tup [aD (eState s), aD (eVal v), dI e]) [] → HSol X ∧ ∃ d', DShw X (fun _ => True) (.tup [aD (eState s), aD (eVal v), dI e]) d' ∧ K d' [] := fun X v e hx hk => ⟨hx, .tup [aD (eState s), aD (eVal v), dI e], ⟨CsS.csShw (CsS.dat (by simp)), val_shw v, ⟨_, rfl, .d rfl⟩, trivial⟩, hk⟩
  refine fni_ok ciKs ciPl Tryz.func8 rfl (by kernel_rfl) rfl rfl rfl rfl (by kernel_rfl) ?_
  rw [vc_seq, vc_region]
  generalize hK1 : onlyK _ _ = K1
  simp
  rw [← hK1]
  clear hK1
  rw [onlyK_mk, thenK_normal, vc_seq, vc_region]
  generalize hK1 : onlyK _ _ = K1
  iterate 17 (rw [vcL_cons]; simp [-vcL_cons])
  rw [vcL_cons]
  simp
  rw [← hK1]
  clear hK1
  rw [onlyK_mk, thenK_normal]
  generalize hM : Hp.set _ _ _ = M
  have m0 : M 0 = some ⟨.c 29, 8, [(eState s).map .d]⟩ := by rw [← hM]; rfl
  have m1 : M 1 = some ⟨.c 29, 8, [[.d .emp, .d .emp, .d .emp, .d .emp, .d .emp, .d .emp, .d (eI 0), .d (eI 0)]]⟩ := by rw [← hM]; rfl
  have m2 : M 2 = some ⟨.c 31, 2, [[.d (eI 0), .d (eI 0)]]⟩ := by rw [← hM]; rfl
  have m3 : M 3 = some ⟨.c 9, 1, [[.d (eS wAny)]]⟩ := by rw [← hM]; rfl
  have m4 : M 4 = some ⟨.c 9, 1, [[.d (eS wList)], [.d (eS wAny)]]⟩ := by rw [← hM]; rfl
  have m5 : M 5 = some ⟨.c 9, 1, [[.d (eS wList)]]⟩ := by rw [← hM]; rfl
  have m6 : M 6 = some ⟨.c 9, 1, [[.d (eS wObj)]]⟩ := by rw [← hM]; rfl
  have m7 : M 7 = some ⟨.c 9, 1, [[.d (eS wAny)]]⟩ := by rw [← hM]; rfl
  have m8 : M 8 = some ⟨.c 9, 1, [[.d (eS wAny)]]⟩ := by rw [← hM]; rfl
  have m9 : M 9 = some ⟨.c 9, 1, [[.d (eS wInt)]]⟩ := by rw [← hM]; rfl
  have m10 : M 10 = some ⟨.c 9, 1, [[.d (eS wFlo)]]⟩ := by rw [← hM]; rfl
  have m11 : M 11 = some ⟨.c 9, 1, [[.d (eS wGen)], [.d (eS wAny)]]⟩ := by rw [← hM]; rfl
  have m12 : M 12 = some ⟨.c 9, 1, [[.d (eS wGen)]]⟩ := by rw [← hM]; rfl
  have m13 : M 13 = some ⟨.c 9, 1, [[.d (eS wWeak)], [.d (eS wRef)], [.d (eS wAny)]]⟩ := by rw [← hM]; rfl
  have m14 : M 14 = some ⟨.c 9, 1, [[.d (eS wWeak)], [.d (eS wRef)]]⟩ := by rw [← hM]; rfl
  have m15 : M 15 = some ⟨.c 9, 1, [[.d (eS wRef)], [.d (eS wFun)]]⟩ := by rw [← hM]; rfl
  have m16 : M 16 = some ⟨.c 24, 1, [[C.own 3 1 1], [C.own 4 1 2], [C.own 5 1 1], [C.own 6 1 1], [C.own 7 1 1], [C.own 8 1 1], [C.own 9 1 1], [C.own 10 1 1], [C.own 11 1 2], [C.own 12 1 1], [C.d Dt.emp], [C.d Dt.emp], [C.own 13 1 3], [C.own 14 1 2], [C.own 15 1 2], [C.d Dt.emp]]⟩ := by rw [← hM]; rfl
  have mS : HSol M := by
    rw [← hM]
    repeat' (first | exact HSol.nil | exact HSol.zero | refine HSol.set ?_ ?_ | (simp; done))
  clear hM
  simp
  refine between_ok _ _ _ ?_
  have hb1 : btw ((6 : Nat) : Int) 0 15 = true := rfl
  have hlW : (formW 6).length = 1 := rfl
  by_cases hl : args.length = 1
  case neg =>
    have e : callW s ((6 : Nat) : Int) args = (s, nilG, 7) := by
      unfold callW
      rw [if_neg (by decide), if_pos (by rw [Int.toNat_natCast, ← formW_len (show 6 < 16 by omega), hlW]; exact hl)]
    rw [e] at h
    have hl' : ¬ (args.length : Int) = 1 := by omega
    simp [hb1, m16, hl, hl']
    intro _
    refine no_ic (by simp) m0 mS 7 fun H' nx' hnx low' sol' => ?_
    have g1 := (low' 1 (by omega)).trans m1
    have g2 := (low' 2 (by omega)).trans m2
    simp [g1, g2]
    exact same _ _ _ (HSol.set (HSol.set sol' (by simp)) (by simp)) h
  have hl' : (args.length : Int) = 1 := by omega
  simp [hb1, m16, hl, hl']
  refine loop_ok (ks := ciKs) (pl := ciPl) (n0 := 422) (fun x : {k : Nat // k ≤ 1 ∧ ∀ j (_ : j < args.length), j < k → argS s ((formW 6).getD j wAny) args[j] = true} => [(70, dI x.1)]) (fun x => 1 - x.1) ⟨0, by omega, fun j _ h => absurd h (Nat.not_lt_zero _)⟩ rfl (by kernel_rfl) (Wk.sub (by simp)) ?_
  rintro ⟨k, hk, ht⟩
  by_cases h3 : k < 1
  case pos =>
    have bad : argS s ((formW 6).getD k wAny) args[k] = false → K (.tup [aD (eState s), aD (eVal nilG), dI 0]) [] := fun hb => by
      have e : callW s ((6 : Nat) : Int) args = (s, nilG, 0) := by
        unfold callW
        rw [if_neg (by decide), if_neg (by rw [Int.toNat_natCast, ← formW_len (show 6 < 16 by omega), hlW]; omega), if_pos ?_]
        rw [Int.toNat_natCast, Bool.eq_false_iff, args_same s (show 6 < 16 by omega)]
        intro hall
        rw [List.all_eq_true] at hall
        have := hall ((formW 6)[k]'(by omega), args[k]) (List.mem_iff_getElem.2 ⟨k, by simp; omega, by simp⟩)
        rw [List.getD_eq_getElem?_getD, List.getElem?_eq_getElem (by omega), Option.getD_some] at hb
        simp only at this
        rw [hb] at this
        cases this
      rw [e] at h
      exact h
    have good : argS s ((formW 6).getD k wAny) args[k] = true → ∀ j (_ : j < args.length), j < k + 1 → argS s ((formW 6).getD j wAny) args[j] = true := fun hb j hj hjk => by
      by_cases ej : j = k
      · subst ej; exact hb
      · exact ht j hj (by omega)
    have hka : k < args.length := by omega
    have hka' : (k : Int) < (args.length : Int) := by omega
    have hk3 : k = 0 ∨ k = 1 ∨ k = 2 := by omega
    rcases hk3 with rfl | rfl | rfl
    · skip
      simp [m9, hka, hka', m0]
      refine argFits_ok s _ _ ?_
      have hb0 : argS s ((formW 6).getD 0 wAny) args[0] = argS s wInt args[0] := rfl
      rw [hb0] at bad good
      clear hb0
      cases hb : argS s wInt args[0] with
      | false =>
        have hbad := bad hb
        simp
        refine no_ic (by simp) m0 mS 0 fun H' nx' hnx low' sol' => ?_
        have g1 := (low' 1 (by omega)).trans m1
        have g2 := (low' 2 (by omega)).trans m2
        simp [g1, g2]
        exact same _ _ _ (HSol.set (HSol.set sol' (by simp)) (by simp)) hbad
      | true =>
        simp
        exact ⟨0 + 1, by omega, ⟨by omega, good hb⟩, Wk.sub (by simp [show IntKind.i64.wrap 1 = 1 by kernel_rfl, show IntKind.i64.wrap 2 = 2 by kernel_rfl, show IntKind.i64.wrap 3 = 3 by kernel_rfl])⟩
    · exact absurd h3 (by omega)
    · exact absurd h3 (by omega)
  have ek : k = 1 := by omega
  subst ek
  have hab : argsB s (formB 6) args = true := by
    rw [args_same s (show 6 < 16 by omega), List.all_eq_true]
    intro x hx
    obtain ⟨i, hi, rfl⟩ := List.mem_iff_getElem.1 hx
    simp at hi
    have := ht i (by omega) (by omega)
    rw [List.getD_eq_getElem?_getD, List.getElem?_eq_getElem (by omega), Option.getD_some] at this
    simpa using this
  have e : callW s ((6 : Nat) : Int) args = callR s 6 args := callW_at (by omega) (by rw [← formW_len (show 6 < 16 by omega), hlW]; exact hl) hab
  rw [e] at h
  obtain ⟨a, rfl⟩ : ∃ a, args = [a] := List.length_eq_one_iff.1 hl
  have hfa := hf a (by simp)
  have hr := fits_ref hfa
  simp only [callR, valAt, List.getD_cons_zero] at h
  have ha : a.kind = 2 := by
    simp [argsB, formB] at hab
    simpa [argB] using hab
  obtain ⟨k, n⟩ := a
  simp only at ha
  subst ha
  simp [m0]
  refine floatD_ok _ ?_
  simp [m0, m1, m2]
  refine same _ ⟨3, ofN (FloatKind.f64.nearest n)⟩ _ ?_ ?_
  · skip
    repeat' (first | exact mS | exact sol' | exact dV_sol _ | exact (valBlk_new _).sol | exact (shpBlk_new _).sol | exact (txtBlk_new _).sol | exact (endBlk_new _).sol | refine hsolN ?_ | refine HSol.set ?_ ?_ | (simp; done))
  · rw [ofN_nearest]
    exact h
theorem callIn7 (s : GState) (hq : cellsQ wordsT s = 0) (args : List GVal) (hf : ∀ v ∈ args, fitsB s v = true) {K : D → List Blk → Prop} (h : K (.tup [aD (eState (callW s (7 : Nat) args).1), aD (eVal (callW s (7 : Nat) args).2.1), dI (callW s (7 : Nat) args).2.2]) []) :
    DPure Tryz.prog 8 [aD (eState s), dI (7 : Nat), dL true (args.map eVal)] K := by
  refine DPure.ofI ?_
  have same : ∀ (X : Hp) (v : GVal) (e : Int), HSol X → K (.tup [aD (eState s), aD (eVal v), dI e]) [] → HSol X ∧ ∃ d', DShw X (fun _ => True) (.tup [aD (eState s), aD (eVal v), dI e]) d' ∧ K d' [] := fun X v e hx hk => ⟨hx, .tup [aD (eState s), aD (eVal v), dI e], ⟨CsS.csShw (CsS.dat (by simp)), val_shw v, ⟨_, rfl, .d rfl⟩, trivial⟩, hk⟩
  refine fni_ok ciKs ciPl Tryz.func8 rfl (by kernel_rfl) rfl rfl rfl rfl (by kernel_rfl) ?_
  rw [vc_seq, vc_region]
  generalize hK1 : onlyK _ _ = K1
  simp
  rw [← hK1]
  clear hK1
  rw [onlyK_mk, thenK_normal, vc_seq, vc_region]
  generalize hK1 : onlyK _ _ = K1
  iterate 17 (rw [vcL_cons]; simp [-vcL_cons])
  rw [vcL_cons]
  simp
  rw [← hK1]
  clear hK1
  rw [onlyK_mk, thenK_normal]
  generalize hM : Hp.set _ _ _ = M
  have m0 : M 0 = some ⟨.c 29, 8, [(eState s).map .d]⟩ := by rw [← hM]; rfl
  have m1 : M 1 = some ⟨.c 29, 8, [[.d .emp, .d .emp, .d .emp, .d .emp, .d .emp, .d .emp, .d (eI 0), .d (eI 0)]]⟩ := by rw [← hM]; rfl
  have m2 : M 2 = some ⟨.c 31, 2, [[.d (eI 0), .d (eI 0)]]⟩ := by rw [← hM]; rfl
  have m3 : M 3 = some ⟨.c 9, 1, [[.d (eS wAny)]]⟩ := by rw [← hM]; rfl
  have m4 : M 4 = some ⟨.c 9, 1, [[.d (eS wList)], [.d (eS wAny)]]⟩ := by rw [← hM]; rfl
  have m5 : M 5 = some ⟨.c 9, 1, [[.d (eS wList)]]⟩ := by rw [← hM]; rfl
  have m6 : M 6 = some ⟨.c 9, 1, [[.d (eS wObj)]]⟩ := by rw [← hM]; rfl
  have m7 : M 7 = some ⟨.c 9, 1, [[.d (eS wAny)]]⟩ := by rw [← hM]; rfl
  have m8 : M 8 = some ⟨.c 9, 1, [[.d (eS wAny)]]⟩ := by rw [← hM]; rfl
  have m9 : M 9 = some ⟨.c 9, 1, [[.d (eS wInt)]]⟩ := by rw [← hM]; rfl
  have m10 : M 10 = some ⟨.c 9, 1, [[.d (eS wFlo)]]⟩ := by rw [← hM]; rfl
  have m11 : M 11 = some ⟨.c 9, 1, [[.d (eS wGen)], [.d (eS wAny)]]⟩ := by rw [← hM]; rfl
  have m12 : M 12 = some ⟨.c 9, 1, [[.d (eS wGen)]]⟩ := by rw [← hM]; rfl
  have m13 : M 13 = some ⟨.c 9, 1, [[.d (eS wWeak)], [.d (eS wRef)], [.d (eS wAny)]]⟩ := by rw [← hM]; rfl
  have m14 : M 14 = some ⟨.c 9, 1, [[.d (eS wWeak)], [.d (eS wRef)]]⟩ := by rw [← hM]; rfl
  have m15 : M 15 = some ⟨.c 9, 1, [[.d (eS wRef)], [.d (eS wFun)]]⟩ := by rw [← hM]; rfl
  have m16 : M 16 = some ⟨.c 24, 1, [[C.own 3 1 1], [C.own 4 1 2], [C.own 5 1 1], [C.own 6 1 1], [C.own 7 1 1], [C.own 8 1 1], [C.own 9 1 1], [C.own 10 1 1], [C.own 11 1 2], [C.own 12 1 1], [C.d Dt.emp], [C.d Dt.emp], [C.own 13 1 3], [C.own 14 1 2], [C.own 15 1 2], [C.d Dt.emp]]⟩ := by rw [← hM]; rfl
  have mS : HSol M := by
    rw [← hM]
    repeat' (first | exact HSol.nil | exact HSol.zero | refine HSol.set ?_ ?_ | (simp; done))
  clear hM
  simp
  refine between_ok _ _ _ ?_
  have hb1 : btw ((7 : Nat) : Int) 0 15 = true := rfl
  have hlW : (formW 7).length = 1 := rfl
  by_cases hl : args.length = 1
  case neg =>
    have e : callW s ((7 : Nat) : Int) args = (s, nilG, 7) := by
      unfold callW
      rw [if_neg (by decide), if_pos (by rw [Int.toNat_natCast, ← formW_len (show 7 < 16 by omega), hlW]; exact hl)]
    rw [e] at h
    have hl' : ¬ (args.length : Int) = 1 := by omega
    simp [hb1, m16, hl, hl']
    intro _
    refine no_ic (by simp) m0 mS 7 fun H' nx' hnx low' sol' => ?_
    have g1 := (low' 1 (by omega)).trans m1
    have g2 := (low' 2 (by omega)).trans m2
    simp [g1, g2]
    exact same _ _ _ (HSol.set (HSol.set sol' (by simp)) (by simp)) h
  have hl' : (args.length : Int) = 1 := by omega
  simp [hb1, m16, hl, hl']
  refine loop_ok (ks := ciKs) (pl := ciPl) (n0 := 422) (fun x : {k : Nat // k ≤ 1 ∧ ∀ j (_ : j < args.length), j < k → argS s ((formW 7).getD j wAny) args[j] = true} => [(70, dI x.1)]) (fun x => 1 - x.1) ⟨0, by omega, fun j _ h => absurd h (Nat.not_lt_zero _)⟩ rfl (by kernel_rfl) (Wk.sub (by simp)) ?_
  rintro ⟨k, hk, ht⟩
  by_cases h3 : k < 1
  case pos =>
    have bad : argS s ((formW 7).getD k wAny) args[k] = false → K (.tup [aD (eState s), aD (eVal nilG), dI 0]) [] := fun hb => by
      have e : callW s ((7 : Nat) : Int) args = (s, nilG, 0) := by
        unfold callW
        rw [if_neg (by decide), if_neg (by rw [Int.toNat_natCast, ← formW_len (show 7 < 16 by omega), hlW]; omega), if_pos ?_]
        rw [Int.toNat_natCast, Bool.eq_false_iff, args_same s (show 7 < 16 by omega)]
        intro hall
        rw [List.all_eq_true] at hall
        have := hall ((formW 7)[k]'(by omega), args[k]) (List.mem_iff_getElem.2 ⟨k, by simp; omega, by simp⟩)
        rw [List.getD_eq_getElem?_getD, List.getElem?_eq_getElem (by omega), Option.getD_some] at hb
        simp only at this
        rw [hb] at this
        cases this
      rw [e] at h
      exact h
    have good : argS s ((formW 7).getD k wAny) args[k] = true → ∀ j (_ : j < args.length), j < k + 1 → argS s ((formW 7).getD j wAny) args[j] = true := fun hb j hj hjk => by
      by_cases ej : j = k
      · subst ej; exact hb
      · exact ht j hj (by omega)
    have hka : k < args.length := by omega
    have hka' : (k : Int) < (args.length : Int) := by omega
    have hk3 : k = 0 ∨ k = 1 ∨ k = 2 := by omega
    rcases hk3 with rfl | rfl | rfl
    · skip
      simp [m10, hka, hka', m0]
      refine argFits_ok s _ _ ?_
      have hb0 : argS s ((formW 7).getD 0 wAny) args[0] = argS s wFlo args[0] := rfl
      rw [hb0] at bad good
      clear hb0
      cases hb : argS s wFlo args[0] with
      | false =>
        have hbad := bad hb
        simp
        refine no_ic (by simp) m0 mS 0 fun H' nx' hnx low' sol' => ?_
        have g1 := (low' 1 (by omega)).trans m1
        have g2 := (low' 2 (by omega)).trans m2
        simp [g1, g2]
        exact same _ _ _ (HSol.set (HSol.set sol' (by simp)) (by simp)) hbad
      | true =>
        simp
        exact ⟨0 + 1, by omega, ⟨by omega, good hb⟩, Wk.sub (by simp [show IntKind.i64.wrap 1 = 1 by kernel_rfl, show IntKind.i64.wrap 2 = 2 by kernel_rfl, show IntKind.i64.wrap 3 = 3 by kernel_rfl])⟩
    · exact absurd h3 (by omega)
    · exact absurd h3 (by omega)
  have ek : k = 1 := by omega
  subst ek
  have hab : argsB s (formB 7) args = true := by
    rw [args_same s (show 7 < 16 by omega), List.all_eq_true]
    intro x hx
    obtain ⟨i, hi, rfl⟩ := List.mem_iff_getElem.1 hx
    simp at hi
    have := ht i (by omega) (by omega)
    rw [List.getD_eq_getElem?_getD, List.getElem?_eq_getElem (by omega), Option.getD_some] at this
    simpa using this
  have e : callW s ((7 : Nat) : Int) args = callR s 7 args := callW_at (by omega) (by rw [← formW_len (show 7 < 16 by omega), hlW]; exact hl) hab
  rw [e] at h
  obtain ⟨a, rfl⟩ : ∃ a, args = [a] := List.length_eq_one_iff.1 hl
  have hfa := hf a (by simp)
  have hr := fits_ref hfa
  simp only [callR, valAt, List.getD_cons_zero] at h
  have ha : a.kind = 3 := by
    simp [argsB, formB] at hab
    simpa [argB] using hab
  obtain ⟨k, n⟩ := a
  simp only at ha
  subst ha
  simp [m0]
  refine floatOf_ok _ _ ?_
  simp [m0]
  refine isNaN_ok _ ?_
  simp [m0]
  obtain ⟨t1, t2⟩ := trc_doc n
  have hmn : IntKind.i64.min = -9223372036854775808 := by kernel_rfl
  cases htr : trcW n with
  | none =>
    rw [htr] at h
    simp only at h
    by_cases c1 : Go.Proofs.YtbphdcffpobcbaaGreatDoor.same (flt n) (flt n) = true
    · have t3 := t2 htr c1
      unfold ordB at t3
      simp only [Bool.or_eq_true, beq_iff_eq] at t3
      rw [if_pos c1]
      by_cases c2 : Ieee.double.order (flt n) 4746794007248502784 = some Ordering.gt ∨ Ieee.double.order (flt n) 4746794007248502784 = some Ordering.eq
      · rw [if_neg (fun e => c2.elim e.1 e.2)]
        refine no_ic (cs := (eState s).map .d) (by simp) (by simp [Hp.set, m0]) ?_ _ fun H' nx' hnx low' sol' => ?_
        · skip
          repeat' (first | exact mS | exact sol' | exact dV_sol _ | exact (valBlk_new _).sol | exact (shpBlk_new _).sol | exact (txtBlk_new _).sol | exact (endBlk_new _).sol | refine hsolN ?_ | refine HSol.set ?_ ?_ | (simp; done))
        have g1 : H' 1 = some ⟨.c 29, 8, [[.d .emp, .d .emp, .d .emp, .d .emp, .d .emp, .d .emp, .d (eI 0), .d (eI 0)]]⟩ := (low' 1 (by omega)).trans (by simp [Hp.set, m1])
        have g2 : H' 2 = some ⟨.c 31, 2, [[.d (eI 0), .d (eI 0)]]⟩ := (low' 2 (by omega)).trans (by simp [Hp.set, m2])
        simp [g1, g2]
        exact same _ _ _ (HSol.set (HSol.set sol' (by simp)) (by simp)) h
      · rw [if_pos ⟨fun e => c2 (.inl e), fun e => c2 (.inr e)⟩, if_pos (t3.resolve_left c2)]
        refine no_ic (cs := (eState s).map .d) (by simp) (by simp [Hp.set, m0]) ?_ _ fun H' nx' hnx low' sol' => ?_
        · skip
          repeat' (first | exact mS | exact sol' | exact dV_sol _ | exact (valBlk_new _).sol | exact (shpBlk_new _).sol | exact (txtBlk_new _).sol | exact (endBlk_new _).sol | refine hsolN ?_ | refine HSol.set ?_ ?_ | (simp; done))
        have g1 : H' 1 = some ⟨.c 29, 8, [[.d .emp, .d .emp, .d .emp, .d .emp, .d .emp, .d .emp, .d (eI 0), .d (eI 0)]]⟩ := (low' 1 (by omega)).trans (by simp [Hp.set, m1])
        have g2 : H' 2 = some ⟨.c 31, 2, [[.d (eI 0), .d (eI 0)]]⟩ := (low' 2 (by omega)).trans (by simp [Hp.set, m2])
        simp [g1, g2]
        exact same _ _ _ (HSol.set (HSol.set sol' (by simp)) (by simp)) h
    · rw [if_neg c1]
      refine no_ic (cs := (eState s).map .d) (by simp) (by simp [Hp.set, m0]) ?_ _ fun H' nx' hnx low' sol' => ?_
      · skip
        repeat' (first | exact mS | exact sol' | exact dV_sol _ | exact (valBlk_new _).sol | exact (shpBlk_new _).sol | exact (txtBlk_new _).sol | exact (endBlk_new _).sol | refine hsolN ?_ | refine HSol.set ?_ ?_ | (simp; done))
      have g1 : H' 1 = some ⟨.c 29, 8, [[.d .emp, .d .emp, .d .emp, .d .emp, .d .emp, .d .emp, .d (eI 0), .d (eI 0)]]⟩ := (low' 1 (by omega)).trans (by simp [Hp.set, m1])
      have g2 : H' 2 = some ⟨.c 31, 2, [[.d (eI 0), .d (eI 0)]]⟩ := (low' 2 (by omega)).trans (by simp [Hp.set, m2])
      simp [g1, g2]
      exact same _ _ _ (HSol.set (HSol.set sol' (by simp)) (by simp)) h
  | some N =>
    rw [htr] at h
    simp only at h
    obtain ⟨c1, c2, c3, c4, c5⟩ := t1 N htr
    unfold ordB at c2
    simp only [Bool.or_eq_false_iff, beq_eq_false_iff_ne, ne_eq] at c2
    obtain ⟨⟨c6, c7⟩, c8, c9⟩ := c2
    rw [if_pos c1, if_pos ⟨c6, c7⟩, if_neg (fun e => e.elim c8 c9), show Ieee.Datum.toInt Ieee.Toward.zero (FloatKind.f64.decode (flt n)) = some N from c3]
    simp only [hmn]
    refine ⟨by omega, by omega, ?_⟩
    refine num_ic (cs := (eState s).map .d) (by simp) (by simp [Hp.set, m0]) ?_ _ fun H' nx' hnx low' sol' => ?_
    · skip
      repeat' (first | exact mS | exact sol' | exact dV_sol _ | exact (valBlk_new _).sol | exact (shpBlk_new _).sol | exact (txtBlk_new _).sol | exact (endBlk_new _).sol | refine hsolN ?_ | refine HSol.set ?_ ?_ | (simp; done))
    have g1 : H' 1 = some ⟨.c 29, 8, [[.d .emp, .d .emp, .d .emp, .d .emp, .d .emp, .d .emp, .d (eI 0), .d (eI 0)]]⟩ := (low' 1 (by omega)).trans (by simp [Hp.set, m1])
    have g2 : H' 2 = some ⟨.c 31, 2, [[.d (eI 0), .d (eI 0)]]⟩ := (low' 2 (by omega)).trans (by simp [Hp.set, m2])
    simp [g1, g2]
    exact same _ _ _ (HSol.set (HSol.set sol' (by simp)) (by simp)) h
theorem callIn2 (s : GState) (hq : cellsQ wordsT s = 0) (args : List GVal) (hf : ∀ v ∈ args, fitsB s v = true) {K : D → List Blk → Prop} (h : K (.tup [aD (eState (callW s (2 : Nat) args).1), aD (eVal (callW s (2 : Nat) args).2.1), dI (callW s (2 : Nat) args).2.2]) []) :
    DPure Tryz.prog 8 [aD (eState s), dI (2 : Nat), dL true (args.map eVal)] K := by
  refine DPure.ofI ?_
  have same : ∀ (X : Hp) (v : GVal) (e : Int), HSol X → K (.tup [aD (eState s), aD (eVal v), dI e]) [] → HSol X ∧ ∃ d', DShw X (fun _ => True) (.tup [aD (eState s), aD (eVal v), dI e]) d' ∧ K d' [] := fun X v e hx hk => ⟨hx, .tup [aD (eState s), aD (eVal v), dI e], ⟨CsS.csShw (CsS.dat (by simp)), val_shw v, ⟨_, rfl, .d rfl⟩, trivial⟩, hk⟩
  refine fni_ok ciKs ciPl Tryz.func8 rfl (by kernel_rfl) rfl rfl rfl rfl (by kernel_rfl) ?_
  rw [vc_seq, vc_region]
  generalize hK1 : onlyK _ _ = K1
  simp
  rw [← hK1]
  clear hK1
  rw [onlyK_mk, thenK_normal, vc_seq, vc_region]
  generalize hK1 : onlyK _ _ = K1
  iterate 17 (rw [vcL_cons]; simp [-vcL_cons])
  rw [vcL_cons]
  simp
  rw [← hK1]
  clear hK1
  rw [onlyK_mk, thenK_normal]
  generalize hM : Hp.set _ _ _ = M
  have m0 : M 0 = some ⟨.c 29, 8, [(eState s).map .d]⟩ := by rw [← hM]; rfl
  have m1 : M 1 = some ⟨.c 29, 8, [[.d .emp, .d .emp, .d .emp, .d .emp, .d .emp, .d .emp, .d (eI 0), .d (eI 0)]]⟩ := by rw [← hM]; rfl
  have m2 : M 2 = some ⟨.c 31, 2, [[.d (eI 0), .d (eI 0)]]⟩ := by rw [← hM]; rfl
  have m3 : M 3 = some ⟨.c 9, 1, [[.d (eS wAny)]]⟩ := by rw [← hM]; rfl
  have m4 : M 4 = some ⟨.c 9, 1, [[.d (eS wList)], [.d (eS wAny)]]⟩ := by rw [← hM]; rfl
  have m5 : M 5 = some ⟨.c 9, 1, [[.d (eS wList)]]⟩ := by rw [← hM]; rfl
  have m6 : M 6 = some ⟨.c 9, 1, [[.d (eS wObj)]]⟩ := by rw [← hM]; rfl
  have m7 : M 7 = some ⟨.c 9, 1, [[.d (eS wAny)]]⟩ := by rw [← hM]; rfl
  have m8 : M 8 = some ⟨.c 9, 1, [[.d (eS wAny)]]⟩ := by rw [← hM]; rfl
  have m9 : M 9 = some ⟨.c 9, 1, [[.d (eS wInt)]]⟩ := by rw [← hM]; rfl
  have m10 : M 10 = some ⟨.c 9, 1, [[.d (eS wFlo)]]⟩ := by rw [← hM]; rfl
  have m11 : M 11 = some ⟨.c 9, 1, [[.d (eS wGen)], [.d (eS wAny)]]⟩ := by rw [← hM]; rfl
  have m12 : M 12 = some ⟨.c 9, 1, [[.d (eS wGen)]]⟩ := by rw [← hM]; rfl
  have m13 : M 13 = some ⟨.c 9, 1, [[.d (eS wWeak)], [.d (eS wRef)], [.d (eS wAny)]]⟩ := by rw [← hM]; rfl
  have m14 : M 14 = some ⟨.c 9, 1, [[.d (eS wWeak)], [.d (eS wRef)]]⟩ := by rw [← hM]; rfl
  have m15 : M 15 = some ⟨.c 9, 1, [[.d (eS wRef)], [.d (eS wFun)]]⟩ := by rw [← hM]; rfl
  have m16 : M 16 = some ⟨.c 24, 1, [[C.own 3 1 1], [C.own 4 1 2], [C.own 5 1 1], [C.own 6 1 1], [C.own 7 1 1], [C.own 8 1 1], [C.own 9 1 1], [C.own 10 1 1], [C.own 11 1 2], [C.own 12 1 1], [C.d Dt.emp], [C.d Dt.emp], [C.own 13 1 3], [C.own 14 1 2], [C.own 15 1 2], [C.d Dt.emp]]⟩ := by rw [← hM]; rfl
  have mS : HSol M := by
    rw [← hM]
    repeat' (first | exact HSol.nil | exact HSol.zero | refine HSol.set ?_ ?_ | (simp; done))
  clear hM
  simp
  refine between_ok _ _ _ ?_
  have hb1 : btw ((2 : Nat) : Int) 0 15 = true := rfl
  have hlW : (formW 2).length = 1 := rfl
  by_cases hl : args.length = 1
  case neg =>
    have e : callW s ((2 : Nat) : Int) args = (s, nilG, 7) := by
      unfold callW
      rw [if_neg (by decide), if_pos (by rw [Int.toNat_natCast, ← formW_len (show 2 < 16 by omega), hlW]; exact hl)]
    rw [e] at h
    have hl' : ¬ (args.length : Int) = 1 := by omega
    simp [hb1, m16, hl, hl']
    intro _
    refine no_ic (by simp) m0 mS 7 fun H' nx' hnx low' sol' => ?_
    have g1 := (low' 1 (by omega)).trans m1
    have g2 := (low' 2 (by omega)).trans m2
    simp [g1, g2]
    exact same _ _ _ (HSol.set (HSol.set sol' (by simp)) (by simp)) h
  have hl' : (args.length : Int) = 1 := by omega
  simp [hb1, m16, hl, hl']
  refine loop_ok (ks := ciKs) (pl := ciPl) (n0 := 422) (fun x : {k : Nat // k ≤ 1 ∧ ∀ j (_ : j < args.length), j < k → argS s ((formW 2).getD j wAny) args[j] = true} => [(70, dI x.1)]) (fun x => 1 - x.1) ⟨0, by omega, fun j _ h => absurd h (Nat.not_lt_zero _)⟩ rfl (by kernel_rfl) (Wk.sub (by simp)) ?_
  rintro ⟨k, hk, ht⟩
  by_cases h3 : k < 1
  case pos =>
    have bad : argS s ((formW 2).getD k wAny) args[k] = false → K (.tup [aD (eState s), aD (eVal nilG), dI 0]) [] := fun hb => by
      have e : callW s ((2 : Nat) : Int) args = (s, nilG, 0) := by
        unfold callW
        rw [if_neg (by decide), if_neg (by rw [Int.toNat_natCast, ← formW_len (show 2 < 16 by omega), hlW]; omega), if_pos ?_]
        rw [Int.toNat_natCast, Bool.eq_false_iff, args_same s (show 2 < 16 by omega)]
        intro hall
        rw [List.all_eq_true] at hall
        have := hall ((formW 2)[k]'(by omega), args[k]) (List.mem_iff_getElem.2 ⟨k, by simp; omega, by simp⟩)
        rw [List.getD_eq_getElem?_getD, List.getElem?_eq_getElem (by omega), Option.getD_some] at hb
        simp only at this
        rw [hb] at this
        cases this
      rw [e] at h
      exact h
    have good : argS s ((formW 2).getD k wAny) args[k] = true → ∀ j (_ : j < args.length), j < k + 1 → argS s ((formW 2).getD j wAny) args[j] = true := fun hb j hj hjk => by
      by_cases ej : j = k
      · subst ej; exact hb
      · exact ht j hj (by omega)
    have hka : k < args.length := by omega
    have hka' : (k : Int) < (args.length : Int) := by omega
    have hk3 : k = 0 ∨ k = 1 ∨ k = 2 := by omega
    rcases hk3 with rfl | rfl | rfl
    · skip
      simp [m5, hka, hka', m0]
      refine argFits_ok s _ _ ?_
      have hb0 : argS s ((formW 2).getD 0 wAny) args[0] = argS s wList args[0] := rfl
      rw [hb0] at bad good
      clear hb0
      cases hb : argS s wList args[0] with
      | false =>
        have hbad := bad hb
        simp
        refine no_ic (by simp) m0 mS 0 fun H' nx' hnx low' sol' => ?_
        have g1 := (low' 1 (by omega)).trans m1
        have g2 := (low' 2 (by omega)).trans m2
        simp [g1, g2]
        exact same _ _ _ (HSol.set (HSol.set sol' (by simp)) (by simp)) hbad
      | true =>
        simp
        exact ⟨0 + 1, by omega, ⟨by omega, good hb⟩, Wk.sub (by simp [show IntKind.i64.wrap 1 = 1 by kernel_rfl, show IntKind.i64.wrap 2 = 2 by kernel_rfl, show IntKind.i64.wrap 3 = 3 by kernel_rfl])⟩
    · exact absurd h3 (by omega)
    · exact absurd h3 (by omega)
  have ek : k = 1 := by omega
  subst ek
  have hab : argsB s (formB 2) args = true := by
    rw [args_same s (show 2 < 16 by omega), List.all_eq_true]
    intro x hx
    obtain ⟨i, hi, rfl⟩ := List.mem_iff_getElem.1 hx
    simp at hi
    have := ht i (by omega) (by omega)
    rw [List.getD_eq_getElem?_getD, List.getElem?_eq_getElem (by omega), Option.getD_some] at this
    simpa using this
  have e : callW s ((2 : Nat) : Int) args = callR s 2 args := callW_at (by omega) (by rw [← formW_len (show 2 < 16 by omega), hlW]; exact hl) hab
  rw [e] at h
  obtain ⟨a, rfl⟩ : ∃ a, args = [a] := List.length_eq_one_iff.1 hl
  have hfa := hf a (by simp)
  have hr := fits_ref hfa
  simp only [callR, valAt, List.getD_cons_zero] at h
  have hab1 : namesB s a 2 = true := by
    simp [argsB, formB] at hab
    exact hab
  have a5 : a.kind = 5 := by obtain ⟨n, -, e, -⟩ := names_cell hab1; rw [e]
  obtain ⟨p1, p2⟩ := hr a5
  obtain ⟨n, hnl, rfl⟩ : ∃ (n : Nat) (_ : n < s.cells.length), a = ⟨5, n⟩ := ⟨a.n.toNat, by omega, by cases a; simp at a5 p1 ⊢; exact ⟨a5, by omega⟩⟩
  have hn' : (n : Int) < (s.cells.length : Int) := by omega
  have hvl := (cell_vals hq hnl).2.2
  have hat : cellAt s (n : Int) = s.cells[n] := at_nat hnl
  unfold popW at h
  simp only [hat] at h
  have hv100 := (cell_vals hq hnl).2.1 (by obtain ⟨n', hn2, e1, e2, e3⟩ := names_cell hab1; have : n = n' := by simp at e1; omega
                                           subst this; omega)
  by_cases c1 : s.cells[n].vals.length = 0
  · rw [if_pos c1] at h
    have c1' : (s.cells[n].vals.length : Int) = 0 := by omega
    simp [m0, hnl, hn', c1, c1']
    refine no_ic (cs := (eState s).map .d) (by simp) (by simp [Hp.set, m0]) ?_ _ fun H' nx' hnx low' sol' => ?_
    · skip
      repeat' (first | exact mS | exact sol' | exact dV_sol _ | exact (valBlk_new _).sol | exact (shpBlk_new _).sol | exact (txtBlk_new _).sol | exact (endBlk_new _).sol | refine hsolN ?_ | refine HSol.set ?_ ?_ | (simp; done))
    have g1 : H' 1 = some ⟨.c 29, 8, [[.d .emp, .d .emp, .d .emp, .d .emp, .d .emp, .d .emp, .d (eI 0), .d (eI 0)]]⟩ := (low' 1 (by omega)).trans (by simp [Hp.set, m1])
    have g2 : H' 2 = some ⟨.c 31, 2, [[.d (eI 0), .d (eI 0)]]⟩ := (low' 2 (by omega)).trans (by simp [Hp.set, m2])
    simp [g1, g2]
    exact same _ _ _ (HSol.set (HSol.set sol' (by simp)) (by simp)) h
  rw [if_neg c1] at h
  have c1' : ¬ (s.cells[n].vals.length : Int) = 0 := by omega
  have hw : IntKind.i64.wrap ((s.cells[n].vals.length : Int) - 1) = ((s.cells[n].vals.length - 1 : Nat) : Int) := by rw [wrap_id (by omega) (by omega)]; omega
  obtain ⟨k, hk⟩ : ∃ k, k = s.cells[n].vals.length - 1 := ⟨_, rfl⟩
  have hkl : k < s.cells[n].vals.length := by omega
  have hkl' : (k : Int) < (s.cells[n].vals.length : Int) := by omega
  have hkl2 : k ≤ s.cells[n].vals.length := by omega
  have hkl3 : (k : Int) ≤ (s.cells[n].vals.length : Int) := by omega
  rw [← hk] at hw h
  simp [m0, hnl, hn', c1, c1', hw, lateCall, lateFn, freeO, hkl, hkl', hkl2, hkl3]
  have hval : valAt s.cells[n].vals k = s.cells[n].vals[k] := by simp [valAt, List.getD_eq_getElem?_getD, hkl]
  rw [hval] at h
  have hcl : s.cells.length ≤ 300 := by
    have := (cellsQ_iff.1 hq).1
    simp only [heapLarge, Bool.or_eq_false_iff, decide_eq_false_iff_not] at this
    omega
  refine ⟨.inl (by omega), fun _ => ?_⟩
  repeat' (with_reducible refine And.intro ?_ ?_)
  all_goals
    refine valsSet_ic s n hnl hcl 19 k ?_ fun H1 low1 sol1 row1 => ?_
    · repeat' (first | exact mS | exact (valBlk_new _).sol | refine HSol.set ?_ ?_ | (simp; done))
    have f1 : H1 1 = some ⟨.c 29, 8, [[.d .emp, .d .emp, .d .emp, .d .emp, .d .emp, .d .emp, .d (eI 0), .d (eI 0)]]⟩ := (low1 1 (by omega)).trans (by simp [Hp.set, m1])
    have f2 : H1 2 = some ⟨.c 31, 2, [[.d (eI 0), .d (eI 0)]]⟩ := (low1 2 (by omega)).trans (by simp [Hp.set, m2])
    have fv : H1 19 = some ⟨.c 31, 2, List.map ((fun e => List.map C.d e) ∘ eVal) s.cells[n].vals⟩ := (low1 19 (by omega)).trans (by simp [Hp.set])
    clear low1
    simp [f1, f2, fv, hw, hkl, hkl']
    refine ⟨HSol.set (HSol.set sol1 (by simp)) (by simp), .tup [aD (eState (setV s ⟨5, n⟩ (s.cells[n].vals.take k))), aD (eVal s.cells[n].vals[k]), dI (-1)], ⟨stateC_shw (t := setV s ⟨5, n⟩ (s.cells[n].vals.take k)) (s := s) ?_ (.d rfl) ⟨rfl, rfl, rfl, rfl, rfl, rfl⟩, val_shw _, ⟨_, rfl, .d rfl⟩, trivial⟩, h⟩
    have es : (setV s ⟨5, n⟩ (s.cells[n].vals.take k)).cells = s.cells.set n ⟨s.cells[n].kind, s.cells[n].num, s.cells[n].vals.take k, s.cells[n].frames⟩ := by
      unfold setV setCS
      simp only [hat, Int.toNat_natCast]
    rw [es]
    have sv : ∀ H2 : Hp, H2 19 = H1 19 → Shw H2 (fun _ => True) (.own 19 2 k) (.sl true ((s.cells[n].vals.take k).map eVal)) := fun H2 e2 => Shw.row trivial (e2.trans fv) rfl (es := (s.cells[n].vals.take k).map eVal) (by simp; omega) (by simp [List.map_take, Function.comp_def])
      (fun e he => by obtain ⟨v, -, rfl⟩ := List.mem_map.1 he; rfl) (fun e he d hd => by obtain ⟨v, -, rfl⟩ := List.mem_map.1 he; simp at hd; rcases hd with rfl | rfl <;> rfl)
    refine cellsSet_shw (nC := 22) (cv := .own 19 2 k) ⟨s.cells[n].kind, s.cells[n].num, s.cells[n].vals.take k, s.cells[n].frames⟩ (by rw [Hp.set_ne _ _ (by omega), Hp.set_ne _ _ (by omega)]; exact row1) (sv _ (by rw [Hp.set_ne _ _ (by omega), Hp.set_ne _ _ (by omega)]))
theorem callIn13 (s : GState) (hq : cellsQ wordsT s = 0) (args : List GVal) (hf : ∀ v ∈ args, fitsB s v = true) {K : D → List Blk → Prop} (h : K (.tup [aD (eState (callW s (13 : Nat) args).1), aD (eVal (callW s (13 : Nat) args).2.1), dI (callW s (13 : Nat) args).2.2]) []) :
    DPure Tryz.prog 8 [aD (eState s), dI (13 : Nat), dL true (args.map eVal)] K := by
  refine DPure.ofI ?_
  have same : ∀ (X : Hp) (v : GVal) (e : Int), HSol X → K (.tup [aD (eState s), aD (eVal v), dI e]) [] → HSol X ∧ ∃ d', DShw X (fun _ => True) (.tup [aD (eState s), aD (eVal v), dI e]) d' ∧ K d' [] := fun X v e hx hk => ⟨hx, .tup [aD (eState s), aD (eVal v), dI e], ⟨CsS.csShw (CsS.dat (by simp)), val_shw v, ⟨_, rfl, .d rfl⟩, trivial⟩, hk⟩
  refine fni_ok ciKs ciPl Tryz.func8 rfl (by kernel_rfl) rfl rfl rfl rfl (by kernel_rfl) ?_
  rw [vc_seq, vc_region]
  generalize hK1 : onlyK _ _ = K1
  simp
  rw [← hK1]
  clear hK1
  rw [onlyK_mk, thenK_normal, vc_seq, vc_region]
  generalize hK1 : onlyK _ _ = K1
  iterate 17 (rw [vcL_cons]; simp [-vcL_cons])
  rw [vcL_cons]
  simp
  rw [← hK1]
  clear hK1
  rw [onlyK_mk, thenK_normal]
  generalize hM : Hp.set _ _ _ = M
  have m0 : M 0 = some ⟨.c 29, 8, [(eState s).map .d]⟩ := by rw [← hM]; rfl
  have m1 : M 1 = some ⟨.c 29, 8, [[.d .emp, .d .emp, .d .emp, .d .emp, .d .emp, .d .emp, .d (eI 0), .d (eI 0)]]⟩ := by rw [← hM]; rfl
  have m2 : M 2 = some ⟨.c 31, 2, [[.d (eI 0), .d (eI 0)]]⟩ := by rw [← hM]; rfl
  have m3 : M 3 = some ⟨.c 9, 1, [[.d (eS wAny)]]⟩ := by rw [← hM]; rfl
  have m4 : M 4 = some ⟨.c 9, 1, [[.d (eS wList)], [.d (eS wAny)]]⟩ := by rw [← hM]; rfl
  have m5 : M 5 = some ⟨.c 9, 1, [[.d (eS wList)]]⟩ := by rw [← hM]; rfl
  have m6 : M 6 = some ⟨.c 9, 1, [[.d (eS wObj)]]⟩ := by rw [← hM]; rfl
  have m7 : M 7 = some ⟨.c 9, 1, [[.d (eS wAny)]]⟩ := by rw [← hM]; rfl
  have m8 : M 8 = some ⟨.c 9, 1, [[.d (eS wAny)]]⟩ := by rw [← hM]; rfl
  have m9 : M 9 = some ⟨.c 9, 1, [[.d (eS wInt)]]⟩ := by rw [← hM]; rfl
  have m10 : M 10 = some ⟨.c 9, 1, [[.d (eS wFlo)]]⟩ := by rw [← hM]; rfl
  have m11 : M 11 = some ⟨.c 9, 1, [[.d (eS wGen)], [.d (eS wAny)]]⟩ := by rw [← hM]; rfl
  have m12 : M 12 = some ⟨.c 9, 1, [[.d (eS wGen)]]⟩ := by rw [← hM]; rfl
  have m13 : M 13 = some ⟨.c 9, 1, [[.d (eS wWeak)], [.d (eS wRef)], [.d (eS wAny)]]⟩ := by rw [← hM]; rfl
  have m14 : M 14 = some ⟨.c 9, 1, [[.d (eS wWeak)], [.d (eS wRef)]]⟩ := by rw [← hM]; rfl
  have m15 : M 15 = some ⟨.c 9, 1, [[.d (eS wRef)], [.d (eS wFun)]]⟩ := by rw [← hM]; rfl
  have m16 : M 16 = some ⟨.c 24, 1, [[C.own 3 1 1], [C.own 4 1 2], [C.own 5 1 1], [C.own 6 1 1], [C.own 7 1 1], [C.own 8 1 1], [C.own 9 1 1], [C.own 10 1 1], [C.own 11 1 2], [C.own 12 1 1], [C.d Dt.emp], [C.d Dt.emp], [C.own 13 1 3], [C.own 14 1 2], [C.own 15 1 2], [C.d Dt.emp]]⟩ := by rw [← hM]; rfl
  have mS : HSol M := by
    rw [← hM]
    repeat' (first | exact HSol.nil | exact HSol.zero | refine HSol.set ?_ ?_ | (simp; done))
  clear hM
  simp
  refine between_ok _ _ _ ?_
  have hb1 : btw ((13 : Nat) : Int) 0 15 = true := rfl
  have hlW : (formW 13).length = 2 := rfl
  by_cases hl : args.length = 2
  case neg =>
    have e : callW s ((13 : Nat) : Int) args = (s, nilG, 7) := by
      unfold callW
      rw [if_neg (by decide), if_pos (by rw [Int.toNat_natCast, ← formW_len (show 13 < 16 by omega), hlW]; exact hl)]
    rw [e] at h
    have hl' : ¬ (args.length : Int) = 2 := by omega
    simp [hb1, m16, hl, hl']
    intro _
    refine no_ic (by simp) m0 mS 7 fun H' nx' hnx low' sol' => ?_
    have g1 := (low' 1 (by omega)).trans m1
    have g2 := (low' 2 (by omega)).trans m2
    simp [g1, g2]
    exact same _ _ _ (HSol.set (HSol.set sol' (by simp)) (by simp)) h
  have hl' : (args.length : Int) = 2 := by omega
  simp [hb1, m16, hl, hl']
  refine loop_ok (ks := ciKs) (pl := ciPl) (n0 := 422) (fun x : {k : Nat // k ≤ 2 ∧ ∀ j (_ : j < args.length), j < k → argS s ((formW 13).getD j wAny) args[j] = true} => [(70, dI x.1)]) (fun x => 2 - x.1) ⟨0, by omega, fun j _ h => absurd h (Nat.not_lt_zero _)⟩ rfl (by kernel_rfl) (Wk.sub (by simp)) ?_
  rintro ⟨k, hk, ht⟩
  by_cases h3 : k < 2
  case pos =>
    have bad : argS s ((formW 13).getD k wAny) args[k] = false → K (.tup [aD (eState s), aD (eVal nilG), dI 0]) [] := fun hb => by
      have e : callW s ((13 : Nat) : Int) args = (s, nilG, 0) := by
        unfold callW
        rw [if_neg (by decide), if_neg (by rw [Int.toNat_natCast, ← formW_len (show 13 < 16 by omega), hlW]; omega), if_pos ?_]
        rw [Int.toNat_natCast, Bool.eq_false_iff, args_same s (show 13 < 16 by omega)]
        intro hall
        rw [List.all_eq_true] at hall
        have := hall ((formW 13)[k]'(by omega), args[k]) (List.mem_iff_getElem.2 ⟨k, by simp; omega, by simp⟩)
        rw [List.getD_eq_getElem?_getD, List.getElem?_eq_getElem (by omega), Option.getD_some] at hb
        simp only at this
        rw [hb] at this
        cases this
      rw [e] at h
      exact h
    have good : argS s ((formW 13).getD k wAny) args[k] = true → ∀ j (_ : j < args.length), j < k + 1 → argS s ((formW 13).getD j wAny) args[j] = true := fun hb j hj hjk => by
      by_cases ej : j = k
      · subst ej; exact hb
      · exact ht j hj (by omega)
    have hka : k < args.length := by omega
    have hka' : (k : Int) < (args.length : Int) := by omega
    have hk3 : k = 0 ∨ k = 1 ∨ k = 2 := by omega
    rcases hk3 with rfl | rfl | rfl
    · skip
      simp [m14, hka, hka', m0]
      refine argFits_ok s _ _ ?_
      have hb0 : argS s ((formW 13).getD 0 wAny) args[0] = argS s wWeak args[0] := rfl
      rw [hb0] at bad good
      clear hb0
      cases hb : argS s wWeak args[0] with
      | false =>
        have hbad := bad hb
        simp
        refine no_ic (by simp) m0 mS 0 fun H' nx' hnx low' sol' => ?_
        have g1 := (low' 1 (by omega)).trans m1
        have g2 := (low' 2 (by omega)).trans m2
        simp [g1, g2]
        exact same _ _ _ (HSol.set (HSol.set sol' (by simp)) (by simp)) hbad
      | true =>
        simp
        exact ⟨0 + 1, by omega, ⟨by omega, good hb⟩, Wk.sub (by simp [show IntKind.i64.wrap 1 = 1 by kernel_rfl, show IntKind.i64.wrap 2 = 2 by kernel_rfl, show IntKind.i64.wrap 3 = 3 by kernel_rfl])⟩
    · skip
      simp [m14, hka, hka', m0]
      refine argFits_ok s _ _ ?_
      have hb0 : argS s ((formW 13).getD 1 wAny) args[1] = argS s wRef args[1] := rfl
      rw [hb0] at bad good
      clear hb0
      cases hb : argS s wRef args[1] with
      | false =>
        have hbad := bad hb
        simp
        refine no_ic (by simp) m0 mS 0 fun H' nx' hnx low' sol' => ?_
        have g1 := (low' 1 (by omega)).trans m1
        have g2 := (low' 2 (by omega)).trans m2
        simp [g1, g2]
        exact same _ _ _ (HSol.set (HSol.set sol' (by simp)) (by simp)) hbad
      | true =>
        simp
        exact ⟨1 + 1, by omega, ⟨by omega, good hb⟩, Wk.sub (by simp [show IntKind.i64.wrap 1 = 1 by kernel_rfl, show IntKind.i64.wrap 2 = 2 by kernel_rfl, show IntKind.i64.wrap 3 = 3 by kernel_rfl])⟩
    · exact absurd h3 (by omega)
  have ek : k = 2 := by omega
  subst ek
  have hab : argsB s (formB 13) args = true := by
    rw [args_same s (show 13 < 16 by omega), List.all_eq_true]
    intro x hx
    obtain ⟨i, hi, rfl⟩ := List.mem_iff_getElem.1 hx
    simp at hi
    have := ht i (by omega) (by omega)
    rw [List.getD_eq_getElem?_getD, List.getElem?_eq_getElem (by omega), Option.getD_some] at this
    simpa using this
  have e : callW s ((13 : Nat) : Int) args = callR s 13 args := callW_at (by omega) (by rw [← formW_len (show 13 < 16 by omega), hlW]; exact hl) hab
  rw [e] at h
  obtain ⟨a, b, rfl⟩ : ∃ a b, args = [a, b] := len_two hl
  have hfa := hf a (by simp)
  have hr := fits_ref hfa
  simp only [callR, valAt, List.getD_cons_zero, List.getD_cons_succ] at h
  have hab1 : namesB s a 7 = true := by
    simp [argsB, formB] at hab
    exact hab.1
  have a5 : a.kind = 5 := by obtain ⟨n, -, e, -⟩ := names_cell hab1; rw [e]
  obtain ⟨p1, p2⟩ := hr a5
  obtain ⟨n, hnl, rfl⟩ : ∃ (n : Nat) (_ : n < s.cells.length), a = ⟨5, n⟩ := ⟨a.n.toNat, by omega, by cases a; simp at a5 p1 ⊢; exact ⟨a5, by omega⟩⟩
  have hn' : (n : Int) < (s.cells.length : Int) := by omega
  have hvl := (cell_vals hq hnl).2.2
  have hat : cellAt s (n : Int) = s.cells[n] := at_nat hnl
  obtain ⟨n', hn2, e1, -, hk⟩ := names_cell hab1
  obtain rfl : n = n' := by simp at e1; omega
  clear e1
  obtain ⟨d, -, -, -⟩ := heap_cell hq hnl
  obtain ⟨g1, -, -, -⟩ := cellB_parts d
  obtain ⟨-, w2⟩ := kind_weak g1 hk
  obtain ⟨ps, hps, hk5, hnd⟩ := weak_iff.1 w2
  have hpl : s.cells[n].vals.length = 2 * ps.length := by rw [hps, unp_len]
  unfold keptW at h
  simp only [hat] at h
  obtain ⟨l, hl0⟩ : ∃ l, l = s.cells[n].vals := ⟨_, rfl⟩
  rw [← hl0] at hps hpl h hvl
  simp [m0, hnl, hn', ← hl0]
  refine ⟨.inl (by omega), fun _ => ?_⟩
  refine loop_ok (ks := ciKs) (pl := ciPl) (n0 := 422) (fun x : {j : Nat // j ≤ ps.length ∧ ∀ i (_ : i < ps.length), i < j → ps[i].1 ≠ b} => [(22, dI ((2 * x.1 : Nat) : Int))]) (fun x => ps.length - x.1) ⟨0, by omega, fun i _ h => absurd h (Nat.not_lt_zero _)⟩ rfl (by kernel_rfl) (Wk.sub (by simp)) ?_
  rintro ⟨j, hj, ht⟩
  by_cases h1 : j < ps.length
  · have h1' : 2 * (j : Int) < (l.length : Int) := by omega
    have h2 : 2 * j < l.length := by omega
    have h3 : 2 * j + 1 < l.length := by omega
    obtain ⟨u1, u2⟩ := unp_at ps j
    rw [← hps, List.getElem?_eq_getElem h1] at u1 u2
    simp only [Option.map_some] at u1 u2
    obtain ⟨u3, u4⟩ := List.getElem?_eq_some_iff.1 u1
    obtain ⟨u5, u6⟩ := List.getElem?_eq_some_iff.1 u2
    obtain ⟨v1, v2⟩ := unp_val h1
    rw [← hps] at v1 v2
    have h4 := ht
    obtain ⟨w, hw0⟩ : ∃ w, w = ps[j].1 := ⟨_, rfl⟩
    obtain ⟨w', hw1⟩ : ∃ w, w = ps[j].2 := ⟨_, rfl⟩
    rw [← hw0] at u4 v1
    rw [← hw1] at u6 v2
    have htn : (2 * (j : Int)).toNat = 2 * j := by omega
    have hto : (2 * (j : Int) + 1).toNat = 2 * j + 1 := by omega
    have h0 : 0 ≤ 2 * (j : Int) := by omega
    have h5 : 0 ≤ 2 * (j : Int) + 1 := by omega
    have h6 : 2 * (j : Int) + 1 < (l.length : Int) := by omega
    have hwr : IntKind.i64.wrap (2 * (j : Int) + 2) = ((2 * (j + 1) : Nat) : Int) := by rw [wrap_id (by omega) (by omega)]; omega
    have hwo : IntKind.i64.wrap (2 * (j : Int) + 1) = 2 * (j : Int) + 1 := wrap_id (by omega) (by omega)
    by_cases e : w = b
    · have ek : w.kind = b.kind ∧ w.n = b.n := by rw [e]; exact ⟨rfl, rfl⟩
      simp [m0, m1, m2, h1', h2, h3, u4, u6, htn, hto, h0, h5, h6, hwr, hwo, ek.1, ek.2]
      have hkv : keptV l b = w' := by
        have hsp := keyAt_spec ps b
        rw [← hps] at hsp
        rcases hsp with ⟨-, hno⟩ | ⟨i, hi, hi2, hi3⟩
        · exact absurd (hw0.symm.trans e) (hno ps[j] (List.getElem_mem h1))
        · obtain rfl : i = j := keys_at ⟨hk5, hnd⟩ hi h1 (hi2.trans (by rw [← hw0, e]))
          unfold keptV
          rw [hi3, if_neg (by omega), Int.toNat_natCast, v2]
      rw [hkv] at h
      refine same _ w' _ ?_ h
      repeat' (first | exact mS | exact sol' | exact dV_sol _ | exact (valBlk_new _).sol | exact (shpBlk_new _).sol | exact (txtBlk_new _).sol | exact (endBlk_new _).sol | refine hsolN ?_ | refine HSol.set ?_ ?_ | (simp; done))
    · have ek : ¬ (w.kind = b.kind ∧ w.n = b.n) := fun h => e (by cases w; cases b; simp_all)
      simp [m0, m1, m2, h1', h2, h3, u4, u6, htn, hto, h0, h5, h6, hwr, hwo, ek]
      refine ⟨j + 1, by omega, ⟨by omega, fun i hi hij => ?_⟩, Wk.sub (by simp)⟩
      by_cases ej : i = j
      · subst ej
        rw [← hw0]
        exact e
      · exact h4 i hi (by omega)
  · obtain rfl : j = ps.length := by omega
    have h1' : ¬ 2 * (ps.length : Int) < (l.length : Int) := by omega
    have hk0 : keptV l b = nilG := by
      have hsp := keyAt_spec ps b
      rw [← hps] at hsp
      unfold keptV
      rw [if_pos]
      rcases hsp with ⟨h, -⟩ | ⟨i, hi, hi2, -⟩
      · omega
      · exact absurd hi2 (ht i hi hi)
    rw [hk0] at h
    simp [m0, h1']
    refine no_ic (cs := (eState s).map .d) (by simp) (by simp [Hp.set, m0]) ?_ _ fun H' nx' hnx low' sol' => ?_
    · skip
      repeat' (first | exact mS | exact sol' | exact dV_sol _ | exact (valBlk_new _).sol | exact (shpBlk_new _).sol | exact (txtBlk_new _).sol | exact (endBlk_new _).sol | refine hsolN ?_ | refine HSol.set ?_ ?_ | (simp; done))
    have g1 : H' 1 = some ⟨.c 29, 8, [[.d .emp, .d .emp, .d .emp, .d .emp, .d .emp, .d .emp, .d (eI 0), .d (eI 0)]]⟩ := (low' 1 (by omega)).trans (by simp [Hp.set, m1])
    have g2 : H' 2 = some ⟨.c 31, 2, [[.d (eI 0), .d (eI 0)]]⟩ := (low' 2 (by omega)).trans (by simp [Hp.set, m2])
    simp [g1, g2]
    exact same _ _ _ (HSol.set (HSol.set sol' (by simp)) (by simp)) h
end Go.Proofs.YtbphdcffpobcbaaGreatDoor
