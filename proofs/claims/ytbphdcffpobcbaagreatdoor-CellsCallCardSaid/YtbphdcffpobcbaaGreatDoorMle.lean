/- Several texts in one. -/
import Derived.Test.YtbphdcffpobcbaaGreatDoorMld
set_option linter.unusedSimpArgs false
set_option linter.unusedVariables false
set_option maxRecDepth 100000
set_option maxHeartbeats 16000000
namespace Go.Proofs.YtbphdcffpobcbaaGreatDoor
open Go.RowKit Go
theorem callIn5 (s : GState) (hq : cellsQ wordsT s = 0) (args : List GVal) (hf : ∀ v ∈ args, fitsB s v = true) {K : D → List Blk → Prop} (h : K (.tup [aD (eState (callW s (5 : Nat) args).1), aD (eVal (callW s (5 : Nat) args).2.1), dI (callW s (5 : Nat) args).2.2]) []) :
    DPure Tryz.prog 8 [aD (eState s), dI (5 : Nat), dL true (args.map eVal)] K := by
  refine DPure.ofI ?_
  have same : ∀ (X : Hp) (v : GVal) (e : Int), HSol X → K (.tup [aD (eState s), aD (eVal v), dI e]) [] → HSol X ∧ ∃ d', DShw X (fun _ => True) (.tup [aD (eState s), aD (eVal v), dI e]) d' ∧ K d' [] := fun X v e hx hk => ⟨hx, .tup [aD (eState s), aD (eVal v), dI e], ⟨CsS.csShw (CsS.dat (by simp)), val_shw v, ⟨_, rfl, .d rfl⟩, trivial⟩, hk⟩
  refine fni_ok ciKs ciPl Tryz.func8 rfl (by kernel_rfl) rfl rfl rfl rfl (by kernel_rfl) ?_
  rw [vc_seq, vc_region]
  generalize hK1 : onlyK _ _ = K1
  simp
  rw [← hK1]
  clear hK1
  rw [onlyK_mk, thenK_normal, vc_seq, vc_region]
  generalize hK1 : onlyK _ _ = K1
  iterate 17 (rw [vcL_cons]; simp [-vcL_cons])
  rw [vcL_cons]
  simp
  rw [← hK1]
  clear hK1
  rw [onlyK_mk, thenK_normal]
  generalize hM : Hp.set _ _ _ = M
  have m0 : M 0 = some ⟨.c 29, 8, [(eState s).map .d]⟩ := by rw [← hM]; rfl
  have m1 : M 1 = some ⟨.c 29, 8, [[.d .emp, .d .emp, .d .emp, .d .emp, .d .emp, .d .emp, .d (eI 0), .d (eI 0)]]⟩ := by rw [← hM]; rfl
  have m2 : M 2 = some ⟨.c 31, 2, [[.d (eI 0), .d (eI 0)]]⟩ := by rw [← hM]; rfl
  have m3 : M 3 = some ⟨.c 9, 1, [[.d (eS wAny)]]⟩ := by rw [← hM]; rfl
  have m4 : M 4 = some ⟨.c 9, 1, [[.d (eS wList)], [.d (eS wAny)]]⟩ := by rw [← hM]; rfl
  have m5 : M 5 = some ⟨.c 9, 1, [[.d (eS wList)]]⟩ := by rw [← hM]; rfl
  have m6 : M 6 = some ⟨.c 9, 1, [[.d (eS wObj)]]⟩ := by rw [← hM]; rfl
  have m7 : M 7 = some ⟨.c 9, 1, [[.d (eS wAny)]]⟩ := by rw [← hM]; rfl
  have m8 : M 8 = some ⟨.c 9, 1, [[.d (eS wAny)]]⟩ := by rw [← hM]; rfl
  have m9 : M 9 = some ⟨.c 9, 1, [[.d (eS wInt)]]⟩ := by rw [← hM]; rfl
  have m10 : M 10 = some ⟨.c 9, 1, [[.d (eS wFlo)]]⟩ := by rw [← hM]; rfl
  have m11 : M 11 = some ⟨.c 9, 1, [[.d (eS wGen)], [.d (eS wAny)]]⟩ := by rw [← hM]; rfl
  have m12 : M 12 = some ⟨.c 9, 1, [[.d (eS wGen)]]⟩ := by rw [← hM]; rfl
  have m13 : M 13 = some ⟨.c 9, 1, [[.d (eS wWeak)], [.d (eS wRef)], [.d (eS wAny)]]⟩ := by rw [← hM]; rfl
  have m14 : M 14 = some ⟨.c 9, 1, [[.d (eS wWeak)], [.d (eS wRef)]]⟩ := by rw [← hM]; rfl
  have m15 : M 15 = some ⟨.c 9, 1, [[.d (eS wRef)], [.d (eS wFun)]]⟩ := by rw [← hM]; rfl
  have m16 : M 16 = some ⟨.c 24, 1, [[C.own 3 1 1], [C.own 4 1 2], [C.own 5 1 1], [C.own 6 1 1], [C.own 7 1 1], [C.own 8 1 1], [C.own 9 1 1], [C.own 10 1 1], [C.own 11 1 2], [C.own 12 1 1], [C.d Dt.emp], [C.d Dt.emp], [C.own 13 1 3], [C.own 14 1 2], [C.own 15 1 2], [C.d Dt.emp]]⟩ := by rw [← hM]; rfl
  have mS : HSol M := by
    rw [← hM]
    repeat' (first | exact HSol.nil | exact HSol.zero | refine HSol.set ?_ ?_ | (simp; done))
  clear hM
  simp
  refine between_ok _ _ _ ?_
  have hb1 : btw ((5 : Nat) : Int) 0 15 = true := rfl
  have hlW : (formW 5).length = 1 := rfl
  by_cases hl : args.length = 1
  case neg =>
    have e : callW s ((5 : Nat) : Int) args = (s, nilG, 7) := by
      unfold callW
      rw [if_neg (by decide), if_pos (by rw [Int.toNat_natCast, ← formW_len (show 5 < 16 by omega), hlW]; exact hl)]
    rw [e] at h
    have hl' : ¬ (args.length : Int) = 1 := by omega
    simp [hb1, m16, hl, hl']
    intro _
    refine no_ic (by simp) m0 mS 7 fun H' nx' hnx low' sol' => ?_
    have g1 := (low' 1 (by omega)).trans m1
    have g2 := (low' 2 (by omega)).trans m2
    simp [g1, g2]
    exact same _ _ _ (HSol.set (HSol.set sol' (by simp)) (by simp)) h
  have hl' : (args.length : Int) = 1 := by omega
  simp [hb1, m16, hl, hl']
  refine loop_ok (ks := ciKs) (pl := ciPl) (n0 := 422) (fun x : {k : Nat // k ≤ 1 ∧ ∀ j (_ : j < args.length), j < k → argS s ((formW 5).getD j wAny) args[j] = true} => [(70, dI x.1)]) (fun x => 1 - x.1) ⟨0, by omega, fun j _ h => absurd h (Nat.not_lt_zero _)⟩ rfl (by kernel_rfl) (Wk.sub (by simp)) ?_
  rintro ⟨k, hk, ht⟩
  by_cases h3 : k < 1
  case pos =>
    have bad : argS s ((formW 5).getD k wAny) args[k] = false → K (.tup [aD (eState s), aD (eVal nilG), dI 0]) [] := fun hb => by
      have e : callW s ((5 : Nat) : Int) args = (s, nilG, 0) := by
        unfold callW
        rw [if_neg (by decide), if_neg (by rw [Int.toNat_natCast, ← formW_len (show 5 < 16 by omega), hlW]; omega), if_pos ?_]
        rw [Int.toNat_natCast, Bool.eq_false_iff, args_same s (show 5 < 16 by omega)]
        intro hall
        rw [List.all_eq_true] at hall
        have := hall ((formW 5)[k]'(by omega), args[k]) (List.mem_iff_getElem.2 ⟨k, by simp; omega, by simp⟩)
        rw [List.getD_eq_getElem?_getD, List.getElem?_eq_getElem (by omega), Option.getD_some] at hb
        simp only at this
        rw [hb] at this
        cases this
      rw [e] at h
      exact h
    have good : argS s ((formW 5).getD k wAny) args[k] = true → ∀ j (_ : j < args.length), j < k + 1 → argS s ((formW 5).getD j wAny) args[j] = true := fun hb j hj hjk => by
      by_cases ej : j = k
      · subst ej; exact hb
      · exact ht j hj (by omega)
    have hka : k < args.length := by omega
    have hka' : (k : Int) < (args.length : Int) := by omega
    have hk3 : k = 0 ∨ k = 1 ∨ k = 2 := by omega
    rcases hk3 with rfl | rfl | rfl
    · skip
      simp [m8, hka, hka', m0]
      refine argFits_ok s _ _ ?_
      have hb0 : argS s ((formW 5).getD 0 wAny) args[0] = argS s wAny args[0] := rfl
      rw [hb0] at bad good
      clear hb0
      cases hb : argS s wAny args[0] with
      | false =>
        have hbad := bad hb
        simp
        refine no_ic (by simp) m0 mS 0 fun H' nx' hnx low' sol' => ?_
        have g1 := (low' 1 (by omega)).trans m1
        have g2 := (low' 2 (by omega)).trans m2
        simp [g1, g2]
        exact same _ _ _ (HSol.set (HSol.set sol' (by simp)) (by simp)) hbad
      | true =>
        simp
        exact ⟨0 + 1, by omega, ⟨by omega, good hb⟩, Wk.sub (by simp [show IntKind.i64.wrap 1 = 1 by kernel_rfl, show IntKind.i64.wrap 2 = 2 by kernel_rfl, show IntKind.i64.wrap 3 = 3 by kernel_rfl])⟩
    · exact absurd h3 (by omega)
    · exact absurd h3 (by omega)
  have ek : k = 1 := by omega
  subst ek
  have hab : argsB s (formB 5) args = true := by
    rw [args_same s (show 5 < 16 by omega), List.all_eq_true]
    intro x hx
    obtain ⟨i, hi, rfl⟩ := List.mem_iff_getElem.1 hx
    simp at hi
    have := ht i (by omega) (by omega)
    rw [List.getD_eq_getElem?_getD, List.getElem?_eq_getElem (by omega), Option.getD_some] at this
    simpa using this
  have e : callW s ((5 : Nat) : Int) args = callR s 5 args := callW_at (by omega) (by rw [← formW_len (show 5 < 16 by omega), hlW]; exact hl) hab
  rw [e] at h
  obtain ⟨a, rfl⟩ : ∃ a, args = [a] := List.length_eq_one_iff.1 hl
  have hfa := hf a (by simp)
  have hr := fits_ref hfa
  simp only [callR, valAt, List.getD_cons_zero] at h
  by_cases a5 : a.kind = 5
  · obtain ⟨p1, p2⟩ := hr a5
    obtain ⟨n, hnl, rfl⟩ : ∃ (n : Nat) (_ : n < s.cells.length), a = ⟨5, n⟩ := ⟨a.n.toNat, by omega, by cases a; simp at a5 p1 ⊢; exact ⟨a5, by omega⟩⟩
    have hn' : (n : Int) < (s.cells.length : Int) := by omega
    have hvl := (cell_vals hq hnl).2.2
    have hat : cellAt s (n : Int) = s.cells[n] := at_nat hnl
    simp [m0, hnl, hn']
    refine ⟨.inl (by omega), fun _ => ?_⟩
    refine kindWord_ok s hq ⟨5, n⟩ hfa ?_
    simp [m0, m1, m2]
    refine same _ _ _ ?_ h
    repeat' (first | exact mS | exact sol' | exact dV_sol _ | exact (valBlk_new _).sol | exact (shpBlk_new _).sol | exact (txtBlk_new _).sol | exact (endBlk_new _).sol | refine hsolN ?_ | refine HSol.set ?_ ?_ | (simp; done))
  · simp [m0, a5]
    refine kindWord_ok s hq a hfa ?_
    simp [m0, m1, m2]
    refine same _ _ _ ?_ h
    repeat' (first | exact mS | exact sol' | exact dV_sol _ | exact (valBlk_new _).sol | exact (shpBlk_new _).sol | exact (txtBlk_new _).sol | exact (endBlk_new _).sol | refine hsolN ?_ | refine HSol.set ?_ ?_ | (simp; done))
theorem callIn9 (s : GState) (hq : cellsQ wordsT s = 0) (args : List GVal) (hf : ∀ v ∈ args, fitsB s v = true) {K : D → List Blk → Prop} (h : K (.tup [aD (eState (callW s (9 : Nat) args).1), aD (eVal (callW s (9 : Nat) args).2.1), dI (callW s (9 : Nat) args).2.2]) []) :
    DPure Tryz.prog 8 [aD (eState s), dI (9 : Nat), dL true (args.map eVal)] K := by
  refine DPure.ofI ?_
  have same : ∀ (X : Hp) (v : GVal) (e : Int), HSol X → K (.tup [aD (eState s), aD (eVal v), dI e]) [] → HSol X ∧ ∃ d', DShw X (fun _ => True) (.tup [aD (eState s), aD (eVal v), dI e]) d' ∧ K d' [] := fun X v e hx hk => ⟨hx, .tup [aD (eState s), aD (eVal v), dI e], ⟨CsS.csShw (CsS.dat (by simp)), val_shw v, ⟨_, rfl, .d rfl⟩, trivial⟩, hk⟩
  refine fni_ok ciKs ciPl Tryz.func8 rfl (by kernel_rfl) rfl rfl rfl rfl (by kernel_rfl) ?_
  rw [vc_seq, vc_region]
  generalize hK1 : onlyK _ _ = K1
  simp
  rw [← hK1]
  clear hK1
  rw [onlyK_mk, thenK_normal, vc_seq, vc_region]
  generalize hK1 : onlyK _ _ = K1
  iterate 17 (rw [vcL_cons]; simp [-vcL_cons])
  rw [vcL_cons]
  simp
  rw [← hK1]
  clear hK1
  rw [onlyK_mk, thenK_normal]
  generalize hM : Hp.set _ _ _ = M
  have m0 : M 0 = some ⟨.c 29, 8, [(eState s).map .d]⟩ := by rw [← hM]; rfl
  have m1 : M 1 = some ⟨.c 29, 8, [[.d .emp, .d .emp, .d .emp, .d .emp, .d .emp, .d .emp, .d (eI 0), .d (eI 0)]]⟩ := by rw [← hM]; rfl
  have m2 : M 2 = some ⟨.c 31, 2, [[.d (eI 0), .d (eI 0)]]⟩ := by rw [← hM]; rfl
  have m3 : M 3 = some ⟨.c 9, 1, [[.d (eS wAny)]]⟩ := by rw [← hM]; rfl
  have m4 : M 4 = some ⟨.c 9, 1, [[.d (eS wList)], [.d (eS wAny)]]⟩ := by rw [← hM]; rfl
  have m5 : M 5 = some ⟨.c 9, 1, [[.d (eS wList)]]⟩ := by rw [← hM]; rfl
  have m6 : M 6 = some ⟨.c 9, 1, [[.d (eS wObj)]]⟩ := by rw [← hM]; rfl
  have m7 : M 7 = some ⟨.c 9, 1, [[.d (eS wAny)]]⟩ := by rw [← hM]; rfl
  have m8 : M 8 = some ⟨.c 9, 1, [[.d (eS wAny)]]⟩ := by rw [← hM]; rfl
  have m9 : M 9 = some ⟨.c 9, 1, [[.d (eS wInt)]]⟩ := by rw [← hM]; rfl
  have m10 : M 10 = some ⟨.c 9, 1, [[.d (eS wFlo)]]⟩ := by rw [← hM]; rfl
  have m11 : M 11 = some ⟨.c 9, 1, [[.d (eS wGen)], [.d (eS wAny)]]⟩ := by rw [← hM]; rfl
  have m12 : M 12 = some ⟨.c 9, 1, [[.d (eS wGen)]]⟩ := by rw [← hM]; rfl
  have m13 : M 13 = some ⟨.c 9, 1, [[.d (eS wWeak)], [.d (eS wRef)], [.d (eS wAny)]]⟩ := by rw [← hM]; rfl
  have m14 : M 14 = some ⟨.c 9, 1, [[.d (eS wWeak)], [.d (eS wRef)]]⟩ := by rw [← hM]; rfl
  have m15 : M 15 = some ⟨.c 9, 1, [[.d (eS wRef)], [.d (eS wFun)]]⟩ := by rw [← hM]; rfl
  have m16 : M 16 = some ⟨.c 24, 1, [[C.own 3 1 1], [C.own 4 1 2], [C.own 5 1 1], [C.own 6 1 1], [C.own 7 1 1], [C.own 8 1 1], [C.own 9 1 1], [C.own 10 1 1], [C.own 11 1 2], [C.own 12 1 1], [C.d Dt.emp], [C.d Dt.emp], [C.own 13 1 3], [C.own 14 1 2], [C.own 15 1 2], [C.d Dt.emp]]⟩ := by rw [← hM]; rfl
  have mS : HSol M := by
    rw [← hM]
    repeat' (first | exact HSol.nil | exact HSol.zero | refine HSol.set ?_ ?_ | (simp; done))
  clear hM
  simp
  refine between_ok _ _ _ ?_
  have hb1 : btw ((9 : Nat) : Int) 0 15 = true := rfl
  have hlW : (formW 9).length = 1 := rfl
  by_cases hl : args.length = 1
  case neg =>
    have e : callW s ((9 : Nat) : Int) args = (s, nilG, 7) := by
      unfold callW
      rw [if_neg (by decide), if_pos (by rw [Int.toNat_natCast, ← formW_len (show 9 < 16 by omega), hlW]; exact hl)]
    rw [e] at h
    have hl' : ¬ (args.length : Int) = 1 := by omega
    simp [hb1, m16, hl, hl']
    intro _
    refine no_ic (by simp) m0 mS 7 fun H' nx' hnx low' sol' => ?_
    have g1 := (low' 1 (by omega)).trans m1
    have g2 := (low' 2 (by omega)).trans m2
    simp [g1, g2]
    exact same _ _ _ (HSol.set (HSol.set sol' (by simp)) (by simp)) h
  have hl' : (args.length : Int) = 1 := by omega
  simp [hb1, m16, hl, hl']
  refine loop_ok (ks := ciKs) (pl := ciPl) (n0 := 422) (fun x : {k : Nat // k ≤ 1 ∧ ∀ j (_ : j < args.length), j < k → argS s ((formW 9).getD j wAny) args[j] = true} => [(70, dI x.1)]) (fun x => 1 - x.1) ⟨0, by omega, fun j _ h => absurd h (Nat.not_lt_zero _)⟩ rfl (by kernel_rfl) (Wk.sub (by simp)) ?_
  rintro ⟨k, hk, ht⟩
  by_cases h3 : k < 1
  case pos =>
    have bad : argS s ((formW 9).getD k wAny) args[k] = false → K (.tup [aD (eState s), aD (eVal nilG), dI 0]) [] := fun hb => by
      have e : callW s ((9 : Nat) : Int) args = (s, nilG, 0) := by
        unfold callW
        rw [if_neg (by decide), if_neg (by rw [Int.toNat_natCast, ← formW_len (show 9 < 16 by omega), hlW]; omega), if_pos ?_]
        rw [Int.toNat_natCast, Bool.eq_false_iff, args_same s (show 9 < 16 by omega)]
        intro hall
        rw [List.all_eq_true] at hall
        have := hall ((formW 9)[k]'(by omega), args[k]) (List.mem_iff_getElem.2 ⟨k, by simp; omega, by simp⟩)
        rw [List.getD_eq_getElem?_getD, List.getElem?_eq_getElem (by omega), Option.getD_some] at hb
        simp only at this
        rw [hb] at this
        cases this
      rw [e] at h
      exact h
    have good : argS s ((formW 9).getD k wAny) args[k] = true → ∀ j (_ : j < args.length), j < k + 1 → argS s ((formW 9).getD j wAny) args[j] = true := fun hb j hj hjk => by
      by_cases ej : j = k
      · subst ej; exact hb
      · exact ht j hj (by omega)
    have hka : k < args.length := by omega
    have hka' : (k : Int) < (args.length : Int) := by omega
    have hk3 : k = 0 ∨ k = 1 ∨ k = 2 := by omega
    rcases hk3 with rfl | rfl | rfl
    · skip
      simp [m12, hka, hka', m0]
      refine argFits_ok s _ _ ?_
      have hb0 : argS s ((formW 9).getD 0 wAny) args[0] = argS s wGen args[0] := rfl
      rw [hb0] at bad good
      clear hb0
      cases hb : argS s wGen args[0] with
      | false =>
        have hbad := bad hb
        simp
        refine no_ic (by simp) m0 mS 0 fun H' nx' hnx low' sol' => ?_
        have g1 := (low' 1 (by omega)).trans m1
        have g2 := (low' 2 (by omega)).trans m2
        simp [g1, g2]
        exact same _ _ _ (HSol.set (HSol.set sol' (by simp)) (by simp)) hbad
      | true =>
        simp
        exact ⟨0 + 1, by omega, ⟨by omega, good hb⟩, Wk.sub (by simp [show IntKind.i64.wrap 1 = 1 by kernel_rfl, show IntKind.i64.wrap 2 = 2 by kernel_rfl, show IntKind.i64.wrap 3 = 3 by kernel_rfl])⟩
    · exact absurd h3 (by omega)
    · exact absurd h3 (by omega)
  have ek : k = 1 := by omega
  subst ek
  have hab : argsB s (formB 9) args = true := by
    rw [args_same s (show 9 < 16 by omega), List.all_eq_true]
    intro x hx
    obtain ⟨i, hi, rfl⟩ := List.mem_iff_getElem.1 hx
    simp at hi
    have := ht i (by omega) (by omega)
    rw [List.getD_eq_getElem?_getD, List.getElem?_eq_getElem (by omega), Option.getD_some] at this
    simpa using this
  have e : callW s ((9 : Nat) : Int) args = callR s 9 args := callW_at (by omega) (by rw [← formW_len (show 9 < 16 by omega), hlW]; exact hl) hab
  rw [e] at h
  obtain ⟨a, rfl⟩ : ∃ a, args = [a] := List.length_eq_one_iff.1 hl
  have hfa := hf a (by simp)
  have hr := fits_ref hfa
  simp only [callR, valAt, List.getD_cons_zero] at h
  by_cases a5 : a.kind = 5
  · obtain ⟨p1, p2⟩ := hr a5
    obtain ⟨n, hnl, rfl⟩ : ∃ (n : Nat) (_ : n < s.cells.length), a = ⟨5, n⟩ := ⟨a.n.toNat, by omega, by cases a; simp at a5 p1 ⊢; exact ⟨a5, by omega⟩⟩
    have hn' : (n : Int) < (s.cells.length : Int) := by omega
    have hvl := (cell_vals hq hnl).2.2
    have hat : cellAt s (n : Int) = s.cells[n] := at_nat hnl
    rw [hat] at h
    simp [m0, hnl, hn']
    refine ⟨.inl (by omega), fun _ => ?_⟩
    refine boolD_ok _ ?_
    simp [m0, m1, m2]
    refine same _ ⟨1, bit (decide (s.cells[n].num = 2))⟩ _ ?_ ?_
    · skip
      repeat' (first | exact mS | exact sol' | exact dV_sol _ | exact (valBlk_new _).sol | exact (shpBlk_new _).sol | exact (txtBlk_new _).sol | exact (endBlk_new _).sol | refine hsolN ?_ | refine HSol.set ?_ ?_ | (simp; done))
    · simpa [bit] using h
  · exfalso
    simp [argsB, formB] at hab
    have : namesB s a 5 = true := hab
    obtain ⟨n, -, e, -⟩ := names_cell this
    exact a5 (by rw [e])
theorem callIn0 (s : GState) (hq : cellsQ wordsT s = 0) (args : List GVal) (hf : ∀ v ∈ args, fitsB s v = true) {K : D → List Blk → Prop} (h : K (.tup [aD (eState (callW s (0 : Nat) args).1), aD (eVal (callW s (0 : Nat) args).2.1), dI (callW s (0 : Nat) args).2.2]) []) :
    DPure Tryz.prog 8 [aD (eState s), dI (0 : Nat), dL true (args.map eVal)] K := by
  refine DPure.ofI ?_
  have same : ∀ (X : Hp) (v : GVal) (e : Int), HSol X → K (.tup [aD (eState s), aD (eVal v), dI e]) [] → HSol X ∧ ∃ d', DShw X (fun _ => True) (.tup [aD (eState s), aD (eVal v), dI e]) d' ∧ K d' [] := fun X v e hx hk => ⟨hx, .tup [aD (eState s), aD (eVal v), dI e], ⟨CsS.csShw (CsS.dat (by simp)), val_shw v, ⟨_, rfl, .d rfl⟩, trivial⟩, hk⟩
  refine fni_ok ciKs ciPl Tryz.func8 rfl (by kernel_rfl) rfl rfl rfl rfl (by kernel_rfl) ?_
  rw [vc_seq, vc_region]
  generalize hK1 : onlyK _ _ = K1
  simp
  rw [← hK1]
  clear hK1
  rw [onlyK_mk, thenK_normal, vc_seq, vc_region]
  generalize hK1 : onlyK _ _ = K1
  iterate 17 (rw [vcL_cons]; simp [-vcL_cons])
  rw [vcL_cons]
  simp
  rw [← hK1]
  clear hK1
  rw [onlyK_mk, thenK_normal]
  generalize hM : Hp.set _ _ _ = M
  have m0 : M 0 = some ⟨.c 29, 8, [(eState s).map .d]⟩ := by rw [← hM]; rfl
  have m1 : M 1 = some ⟨.c 29, 8, [[.d .emp, .d .emp, .d .emp, .d .emp, .d .emp, .d .emp, .d (eI 0), .d (eI 0)]]⟩ := by rw [← hM]; rfl
  have m2 : M 2 = some ⟨.c 31, 2, [[.d (eI 0), .d (eI 0)]]⟩ := by rw [← hM]; rfl
  have m3 : M 3 = some ⟨.c 9, 1, [[.d (eS wAny)]]⟩ := by rw [← hM]; rfl
  have m4 : M 4 = some ⟨.c 9, 1, [[.d (eS wList)], [.d (eS wAny)]]⟩ := by rw [← hM]; rfl
  have m5 : M 5 = some ⟨.c 9, 1, [[.d (eS wList)]]⟩ := by rw [← hM]; rfl
  have m6 : M 6 = some ⟨.c 9, 1, [[.d (eS wObj)]]⟩ := by rw [← hM]; rfl
  have m7 : M 7 = some ⟨.c 9, 1, [[.d (eS wAny)]]⟩ := by rw [← hM]; rfl
  have m8 : M 8 = some ⟨.c 9, 1, [[.d (eS wAny)]]⟩ := by rw [← hM]; rfl
  have m9 : M 9 = some ⟨.c 9, 1, [[.d (eS wInt)]]⟩ := by rw [← hM]; rfl
  have m10 : M 10 = some ⟨.c 9, 1, [[.d (eS wFlo)]]⟩ := by rw [← hM]; rfl
  have m11 : M 11 = some ⟨.c 9, 1, [[.d (eS wGen)], [.d (eS wAny)]]⟩ := by rw [← hM]; rfl
  have m12 : M 12 = some ⟨.c 9, 1, [[.d (eS wGen)]]⟩ := by rw [← hM]; rfl
  have m13 : M 13 = some ⟨.c 9, 1, [[.d (eS wWeak)], [.d (eS wRef)], [.d (eS wAny)]]⟩ := by rw [← hM]; rfl
  have m14 : M 14 = some ⟨.c 9, 1, [[.d (eS wWeak)], [.d (eS wRef)]]⟩ := by rw [← hM]; rfl
  have m15 : M 15 = some ⟨.c 9, 1, [[.d (eS wRef)], [.d (eS wFun)]]⟩ := by rw [← hM]; rfl
  have m16 : M 16 = some ⟨.c 24, 1, [[C.own 3 1 1], [C.own 4 1 2], [C.own 5 1 1], [C.own 6 1 1], [C.own 7 1 1], [C.own 8 1 1], [C.own 9 1 1], [C.own 10 1 1], [C.own 11 1 2], [C.own 12 1 1], [C.d Dt.emp], [C.d Dt.emp], [C.own 13 1 3], [C.own 14 1 2], [C.own 15 1 2], [C.d Dt.emp]]⟩ := by rw [← hM]; rfl
  have mS : HSol M := by
    rw [← hM]
    repeat' (first | exact HSol.nil | exact HSol.zero | refine HSol.set ?_ ?_ | (simp; done))
  clear hM
  simp
  refine between_ok _ _ _ ?_
  have hb1 : btw ((0 : Nat) : Int) 0 15 = true := rfl
  have hlW : (formW 0).length = 1 := rfl
  by_cases hl : args.length = 1
  case neg =>
    have e : callW s ((0 : Nat) : Int) args = (s, nilG, 7) := by
      unfold callW
      rw [if_neg (by decide), if_pos (by rw [Int.toNat_natCast, ← formW_len (show 0 < 16 by omega), hlW]; exact hl)]
    rw [e] at h
    have hl' : ¬ (args.length : Int) = 1 := by omega
    simp [hb1, m16, hl, hl']
    intro _
    refine no_ic (by simp) m0 mS 7 fun H' nx' hnx low' sol' => ?_
    have g1 := (low' 1 (by omega)).trans m1
    have g2 := (low' 2 (by omega)).trans m2
    simp [g1, g2]
    exact same _ _ _ (HSol.set (HSol.set sol' (by simp)) (by simp)) h
  have hl' : (args.length : Int) = 1 := by omega
  simp [hb1, m16, hl, hl']
  refine loop_ok (ks := ciKs) (pl := ciPl) (n0 := 422) (fun x : {k : Nat // k ≤ 1 ∧ ∀ j (_ : j < args.length), j < k → argS s ((formW 0).getD j wAny) args[j] = true} => [(70, dI x.1)]) (fun x => 1 - x.1) ⟨0, by omega, fun j _ h => absurd h (Nat.not_lt_zero _)⟩ rfl (by kernel_rfl) (Wk.sub (by simp)) ?_
  rintro ⟨k, hk, ht⟩
  by_cases h3 : k < 1
  case pos =>
    have bad : argS s ((formW 0).getD k wAny) args[k] = false → K (.tup [aD (eState s), aD (eVal nilG), dI 0]) [] := fun hb => by
      have e : callW s ((0 : Nat) : Int) args = (s, nilG, 0) := by
        unfold callW
        rw [if_neg (by decide), if_neg (by rw [Int.toNat_natCast, ← formW_len (show 0 < 16 by omega), hlW]; omega), if_pos ?_]
        rw [Int.toNat_natCast, Bool.eq_false_iff, args_same s (show 0 < 16 by omega)]
        intro hall
        rw [List.all_eq_true] at hall
        have := hall ((formW 0)[k]'(by omega), args[k]) (List.mem_iff_getElem.2 ⟨k, by simp; omega, by simp⟩)
        rw [List.getD_eq_getElem?_getD, List.getElem?_eq_getElem (by omega), Option.getD_some] at hb
        simp only at this
        rw [hb] at this
        cases this
      rw [e] at h
      exact h
    have good : argS s ((formW 0).getD k wAny) args[k] = true → ∀ j (_ : j < args.length), j < k + 1 → argS s ((formW 0).getD j wAny) args[j] = true := fun hb j hj hjk => by
      by_cases ej : j = k
      · subst ej; exact hb
      · exact ht j hj (by omega)
    have hka : k < args.length := by omega
    have hka' : (k : Int) < (args.length : Int) := by omega
    have hk3 : k = 0 ∨ k = 1 ∨ k = 2 := by omega
    rcases hk3 with rfl | rfl | rfl
    · skip
      simp [m3, hka, hka', m0]
      refine argFits_ok s _ _ ?_
      have hb0 : argS s ((formW 0).getD 0 wAny) args[0] = argS s wAny args[0] := rfl
      rw [hb0] at bad good
      clear hb0
      cases hb : argS s wAny args[0] with
      | false =>
        have hbad := bad hb
        simp
        refine no_ic (by simp) m0 mS 0 fun H' nx' hnx low' sol' => ?_
        have g1 := (low' 1 (by omega)).trans m1
        have g2 := (low' 2 (by omega)).trans m2
        simp [g1, g2]
        exact same _ _ _ (HSol.set (HSol.set sol' (by simp)) (by simp)) hbad
      | true =>
        simp
        exact ⟨0 + 1, by omega, ⟨by omega, good hb⟩, Wk.sub (by simp [show IntKind.i64.wrap 1 = 1 by kernel_rfl, show IntKind.i64.wrap 2 = 2 by kernel_rfl, show IntKind.i64.wrap 3 = 3 by kernel_rfl])⟩
    · exact absurd h3 (by omega)
    · exact absurd h3 (by omega)
  have ek : k = 1 := by omega
  subst ek
  have hab : argsB s (formB 0) args = true := by
    rw [args_same s (show 0 < 16 by omega), List.all_eq_true]
    intro x hx
    obtain ⟨i, hi, rfl⟩ := List.mem_iff_getElem.1 hx
    simp at hi
    have := ht i (by omega) (by omega)
    rw [List.getD_eq_getElem?_getD, List.getElem?_eq_getElem (by omega), Option.getD_some] at this
    simpa using this
  have e : callW s ((0 : Nat) : Int) args = callR s 0 args := callW_at (by omega) (by rw [← formW_len (show 0 < 16 by omega), hlW]; exact hl) hab
  rw [e] at h
  obtain ⟨a, rfl⟩ : ∃ a, args = [a] := List.length_eq_one_iff.1 hl
  have hfa := hf a (by simp)
  have hr := fits_ref hfa
  simp only [callR, valAt, List.getD_cons_zero] at h
  by_cases a5 : a.kind = 5
  · skip
    obtain ⟨p1, p2⟩ := hr a5
    obtain ⟨n, hnl, rfl⟩ : ∃ (n : Nat) (_ : n < s.cells.length), a = ⟨5, n⟩ := ⟨a.n.toNat, by omega, by cases a; simp at a5 p1 ⊢; exact ⟨a5, by omega⟩⟩
    have hn' : (n : Int) < (s.cells.length : Int) := by omega
    have hvl := (cell_vals hq hnl).2.2
    have hat : cellAt s (n : Int) = s.cells[n] := at_nat hnl
    have e0 : longW s ⟨5, n⟩ = if s.cells[n].kind = 2 ∨ s.cells[n].kind = 1 then (s, ⟨2, s.cells[n].vals.length⟩, -1) else (s, nilG, 0) := by
      unfold longW
      simp only [hat]
      rw [if_neg (by simp)]
      simp
    rw [e0] at h
    clear e0
    generalize hcc : s.cells[n] = cc at *
    by_cases k2 : cc.kind = 2
    · rw [if_pos (.inl k2)] at h
      simp [m0, hnl, hn', hcc, k2]
      refine ⟨.inl (by omega), fun _ => ?_⟩
      refine num_ic (cs := (eState s).map .d) (by simp) (by simp [Hp.set, m0]) ?_ _ fun H' nx' hnx low' sol' => ?_
      · skip
        repeat' (first | exact mS | exact sol' | exact dV_sol _ | exact (valBlk_new _).sol | exact (shpBlk_new _).sol | exact (txtBlk_new _).sol | exact (endBlk_new _).sol | refine hsolN ?_ | refine HSol.set ?_ ?_ | (simp; done))
      have g1 : H' 1 = some ⟨.c 29, 8, [[.d .emp, .d .emp, .d .emp, .d .emp, .d .emp, .d .emp, .d (eI 0), .d (eI 0)]]⟩ := (low' 1 (by omega)).trans (by simp [Hp.set, m1])
      have g2 : H' 2 = some ⟨.c 31, 2, [[.d (eI 0), .d (eI 0)]]⟩ := (low' 2 (by omega)).trans (by simp [Hp.set, m2])
      simp [g1, g2]
      exact same _ _ _ (HSol.set (HSol.set sol' (by simp)) (by simp)) h
    by_cases k1 : cc.kind = 1
    · rw [if_pos (.inr k1)] at h
      simp [m0, hnl, hn', hcc, k1]
      refine ⟨.inl (by omega), fun _ => ?_⟩
      refine num_ic (cs := (eState s).map .d) (by simp) (by simp [Hp.set, m0]) ?_ _ fun H' nx' hnx low' sol' => ?_
      · skip
        repeat' (first | exact mS | exact sol' | exact dV_sol _ | exact (valBlk_new _).sol | exact (shpBlk_new _).sol | exact (txtBlk_new _).sol | exact (endBlk_new _).sol | refine hsolN ?_ | refine HSol.set ?_ ?_ | (simp; done))
      have g1 : H' 1 = some ⟨.c 29, 8, [[.d .emp, .d .emp, .d .emp, .d .emp, .d .emp, .d .emp, .d (eI 0), .d (eI 0)]]⟩ := (low' 1 (by omega)).trans (by simp [Hp.set, m1])
      have g2 : H' 2 = some ⟨.c 31, 2, [[.d (eI 0), .d (eI 0)]]⟩ := (low' 2 (by omega)).trans (by simp [Hp.set, m2])
      simp [g1, g2]
      exact same _ _ _ (HSol.set (HSol.set sol' (by simp)) (by simp)) h
    · rw [if_neg (by simp [k1, k2])] at h
      simp [m0, hnl, hn', hcc, k1, k2]
      refine ⟨.inl (by omega), fun _ => ?_⟩
      refine no_ic (cs := (eState s).map .d) (by simp) (by simp [Hp.set, m0]) ?_ _ fun H' nx' hnx low' sol' => ?_
      · skip
        repeat' (first | exact mS | exact sol' | exact dV_sol _ | exact (valBlk_new _).sol | exact (shpBlk_new _).sol | exact (txtBlk_new _).sol | exact (endBlk_new _).sol | refine hsolN ?_ | refine HSol.set ?_ ?_ | (simp; done))
      have g1 : H' 1 = some ⟨.c 29, 8, [[.d .emp, .d .emp, .d .emp, .d .emp, .d .emp, .d .emp, .d (eI 0), .d (eI 0)]]⟩ := (low' 1 (by omega)).trans (by simp [Hp.set, m1])
      have g2 : H' 2 = some ⟨.c 31, 2, [[.d (eI 0), .d (eI 0)]]⟩ := (low' 2 (by omega)).trans (by simp [Hp.set, m2])
      simp [g1, g2]
      exact same _ _ _ (HSol.set (HSol.set sol' (by simp)) (by simp)) h
  by_cases a4 : a.kind = 4
  · obtain ⟨p1, p2⟩ := cells_text hfa a4
    obtain ⟨n, hnl, rfl⟩ : ∃ (n : Nat) (_ : n < s.texts.length), a = ⟨4, n⟩ := ⟨a.n.toNat, by omega, by cases a; simp at a4 p1 ⊢; exact ⟨a4, by omega⟩⟩
    have hn' : (n : Int) < (s.texts.length : Int) := by omega
    have e0 : longW s ⟨4, n⟩ = (s, ⟨2, s.texts[n].size⟩, -1) := by
      unfold longW
      rw [if_pos rfl]
      simp [List.getD_eq_getElem?_getD, hnl]
    rw [e0] at h
    simp [m0, hnl, hn']
    refine num_ic (cs := (eState s).map .d) (by simp) (by simp [Hp.set, m0]) ?_ _ fun H' nx' hnx low' sol' => ?_
    · skip
      repeat' (first | exact mS | exact sol' | exact dV_sol _ | exact (valBlk_new _).sol | exact (shpBlk_new _).sol | exact (txtBlk_new _).sol | exact (endBlk_new _).sol | refine hsolN ?_ | refine HSol.set ?_ ?_ | (simp; done))
    have g1 : H' 1 = some ⟨.c 29, 8, [[.d .emp, .d .emp, .d .emp, .d .emp, .d .emp, .d .emp, .d (eI 0), .d (eI 0)]]⟩ := (low' 1 (by omega)).trans (by simp [Hp.set, m1])
    have g2 : H' 2 = some ⟨.c 31, 2, [[.d (eI 0), .d (eI 0)]]⟩ := (low' 2 (by omega)).trans (by simp [Hp.set, m2])
    simp [g1, g2]
    exact same _ _ _ (HSol.set (HSol.set sol' (by simp)) (by simp)) h
  · have e0 : longW s a = (s, nilG, 0) := by
      unfold longW
      rw [if_neg a4, if_neg (fun e => a5 e.1)]
    rw [e0] at h
    simp [m0, a4, a5]
    refine no_ic (cs := (eState s).map .d) (by simp) (by simp [Hp.set, m0]) ?_ _ fun H' nx' hnx low' sol' => ?_
    · skip
      repeat' (first | exact mS | exact sol' | exact dV_sol _ | exact (valBlk_new _).sol | exact (shpBlk_new _).sol | exact (txtBlk_new _).sol | exact (endBlk_new _).sol | refine hsolN ?_ | refine HSol.set ?_ ?_ | (simp; done))
    have g1 : H' 1 = some ⟨.c 29, 8, [[.d .emp, .d .emp, .d .emp, .d .emp, .d .emp, .d .emp, .d (eI 0), .d (eI 0)]]⟩ := (low' 1 (by omega)).trans (by simp [Hp.set, m1])
    have g2 : H' 2 = some ⟨.c 31, 2, [[.d (eI 0), .d (eI 0)]]⟩ := (low' 2 (by omega)).trans (by simp [Hp.set, m2])
    simp [g1, g2]
    exact same _ _ _ (HSol.set (HSol.set sol' (by simp)) (by simp)) h
theorem callIn1 (s : GState) (hq : cellsQ wordsT s = 0) (args : List GVal) (hf : ∀ v ∈ args, fitsB s v = true) {K : D → List Blk → Prop} (h : K (.tup [aD (eState (callW s (1 : Nat) args).1), aD (eVal (callW s (1 : Nat) args).2.1), dI (callW s (1 : Nat) args).2.2]) []) :
    DPure Tryz.prog 8 [aD (eState s), dI (1 : Nat), dL true (args.map eVal)] K := by
  refine DPure.ofI ?_
  have same : ∀ (X : Hp) (v : GVal) (e : Int), HSol X → K (.tup [aD (eState s), aD (eVal v), dI e]) [] → HSol X ∧ ∃ d', DShw X (fun _ => True) (.tup [aD (eState s), aD (eVal v), dI e]) d' ∧ K d' [] := fun X v e hx hk => ⟨hx, .tup [aD (eState s), aD (eVal v), dI e], ⟨CsS.csShw (CsS.dat (by simp)), val_shw v, ⟨_, rfl, .d rfl⟩, trivial⟩, hk⟩
  refine fni_ok ciKs ciPl Tryz.func8 rfl (by kernel_rfl) rfl rfl rfl rfl (by kernel_rfl) ?_
  rw [vc_seq, vc_region]
  generalize hK1 : onlyK _ _ = K1
  simp
  rw [← hK1]
  clear hK1
  rw [onlyK_mk, thenK_normal, vc_seq, vc_region]
  generalize hK1 : onlyK _ _ = K1
  iterate 17 (rw [vcL_cons]; simp [-vcL_cons])
  rw [vcL_cons]
  simp
  rw [← hK1]
  clear hK1
  rw [onlyK_mk, thenK_normal]
  generalize hM : Hp.set _ _ _ = M
  have m0 : M 0 = some ⟨.c 29, 8, [(eState s).map .d]⟩ := by rw [← hM]; rfl
  have m1 : M 1 = some ⟨.c 29, 8, [[.d .emp, .d .emp, .d .emp, .d .emp, .d .emp, .d .emp, .d (eI 0), .d (eI 0)]]⟩ := by rw [← hM]; rfl
  have m2 : M 2 = some ⟨.c 31, 2, [[.d (eI 0), .d (eI 0)]]⟩ := by rw [← hM]; rfl
  have m3 : M 3 = some ⟨.c 9, 1, [[.d (eS wAny)]]⟩ := by rw [← hM]; rfl
  have m4 : M 4 = some ⟨.c 9, 1, [[.d (eS wList)], [.d (eS wAny)]]⟩ := by rw [← hM]; rfl
  have m5 : M 5 = some ⟨.c 9, 1, [[.d (eS wList)]]⟩ := by rw [← hM]; rfl
  have m6 : M 6 = some ⟨.c 9, 1, [[.d (eS wObj)]]⟩ := by rw [← hM]; rfl
  have m7 : M 7 = some ⟨.c 9, 1, [[.d (eS wAny)]]⟩ := by rw [← hM]; rfl
  have m8 : M 8 = some ⟨.c 9, 1, [[.d (eS wAny)]]⟩ := by rw [← hM]; rfl
  have m9 : M 9 = some ⟨.c 9, 1, [[.d (eS wInt)]]⟩ := by rw [← hM]; rfl
  have m10 : M 10 = some ⟨.c 9, 1, [[.d (eS wFlo)]]⟩ := by rw [← hM]; rfl
  have m11 : M 11 = some ⟨.c 9, 1, [[.d (eS wGen)], [.d (eS wAny)]]⟩ := by rw [← hM]; rfl
  have m12 : M 12 = some ⟨.c 9, 1, [[.d (eS wGen)]]⟩ := by rw [← hM]; rfl
  have m13 : M 13 = some ⟨.c 9, 1, [[.d (eS wWeak)], [.d (eS wRef)], [.d (eS wAny)]]⟩ := by rw [← hM]; rfl
  have m14 : M 14 = some ⟨.c 9, 1, [[.d (eS wWeak)], [.d (eS wRef)]]⟩ := by rw [← hM]; rfl
  have m15 : M 15 = some ⟨.c 9, 1, [[.d (eS wRef)], [.d (eS wFun)]]⟩ := by rw [← hM]; rfl
  have m16 : M 16 = some ⟨.c 24, 1, [[C.own 3 1 1], [C.own 4 1 2], [C.own 5 1 1], [C.own 6 1 1], [C.own 7 1 1], [C.own 8 1 1], [C.own 9 1 1], [C.own 10 1 1], [C.own 11 1 2], [C.own 12 1 1], [C.d Dt.emp], [C.d Dt.emp], [C.own 13 1 3], [C.own 14 1 2], [C.own 15 1 2], [C.d Dt.emp]]⟩ := by rw [← hM]; rfl
  have mS : HSol M := by
    rw [← hM]
    repeat' (first | exact HSol.nil | exact HSol.zero | refine HSol.set ?_ ?_ | (simp; done))
  clear hM
  simp
  refine between_ok _ _ _ ?_
  have hb1 : btw ((1 : Nat) : Int) 0 15 = true := rfl
  have hlW : (formW 1).length = 2 := rfl
  by_cases hl : args.length = 2
  case neg =>
    have e : callW s ((1 : Nat) : Int) args = (s, nilG, 7) := by
      unfold callW
      rw [if_neg (by decide), if_pos (by rw [Int.toNat_natCast, ← formW_len (show 1 < 16 by omega), hlW]; exact hl)]
    rw [e] at h
    have hl' : ¬ (args.length : Int) = 2 := by omega
    simp [hb1, m16, hl, hl']
    intro _
    refine no_ic (by simp) m0 mS 7 fun H' nx' hnx low' sol' => ?_
    have g1 := (low' 1 (by omega)).trans m1
    have g2 := (low' 2 (by omega)).trans m2
    simp [g1, g2]
    exact same _ _ _ (HSol.set (HSol.set sol' (by simp)) (by simp)) h
  have hl' : (args.length : Int) = 2 := by omega
  simp [hb1, m16, hl, hl']
  refine loop_ok (ks := ciKs) (pl := ciPl) (n0 := 422) (fun x : {k : Nat // k ≤ 2 ∧ ∀ j (_ : j < args.length), j < k → argS s ((formW 1).getD j wAny) args[j] = true} => [(70, dI x.1)]) (fun x => 2 - x.1) ⟨0, by omega, fun j _ h => absurd h (Nat.not_lt_zero _)⟩ rfl (by kernel_rfl) (Wk.sub (by simp)) ?_
  rintro ⟨k, hk, ht⟩
  by_cases h3 : k < 2
  case pos =>
    have bad : argS s ((formW 1).getD k wAny) args[k] = false → K (.tup [aD (eState s), aD (eVal nilG), dI 0]) [] := fun hb => by
      have e : callW s ((1 : Nat) : Int) args = (s, nilG, 0) := by
        unfold callW
        rw [if_neg (by decide), if_neg (by rw [Int.toNat_natCast, ← formW_len (show 1 < 16 by omega), hlW]; omega), if_pos ?_]
        rw [Int.toNat_natCast, Bool.eq_false_iff, args_same s (show 1 < 16 by omega)]
        intro hall
        rw [List.all_eq_true] at hall
        have := hall ((formW 1)[k]'(by omega), args[k]) (List.mem_iff_getElem.2 ⟨k, by simp; omega, by simp⟩)
        rw [List.getD_eq_getElem?_getD, List.getElem?_eq_getElem (by omega), Option.getD_some] at hb
        simp only at this
        rw [hb] at this
        cases this
      rw [e] at h
      exact h
    have good : argS s ((formW 1).getD k wAny) args[k] = true → ∀ j (_ : j < args.length), j < k + 1 → argS s ((formW 1).getD j wAny) args[j] = true := fun hb j hj hjk => by
      by_cases ej : j = k
      · subst ej; exact hb
      · exact ht j hj (by omega)
    have hka : k < args.length := by omega
    have hka' : (k : Int) < (args.length : Int) := by omega
    have hk3 : k = 0 ∨ k = 1 ∨ k = 2 := by omega
    rcases hk3 with rfl | rfl | rfl
    · skip
      simp [m4, hka, hka', m0]
      refine argFits_ok s _ _ ?_
      have hb0 : argS s ((formW 1).getD 0 wAny) args[0] = argS s wList args[0] := rfl
      rw [hb0] at bad good
      clear hb0
      cases hb : argS s wList args[0] with
      | false =>
        have hbad := bad hb
        simp
        refine no_ic (by simp) m0 mS 0 fun H' nx' hnx low' sol' => ?_
        have g1 := (low' 1 (by omega)).trans m1
        have g2 := (low' 2 (by omega)).trans m2
        simp [g1, g2]
        exact same _ _ _ (HSol.set (HSol.set sol' (by simp)) (by simp)) hbad
      | true =>
        simp
        exact ⟨0 + 1, by omega, ⟨by omega, good hb⟩, Wk.sub (by simp [show IntKind.i64.wrap 1 = 1 by kernel_rfl, show IntKind.i64.wrap 2 = 2 by kernel_rfl, show IntKind.i64.wrap 3 = 3 by kernel_rfl])⟩
    · skip
      simp [m4, hka, hka', m0]
      refine argFits_ok s _ _ ?_
      have hb0 : argS s ((formW 1).getD 1 wAny) args[1] = argS s wAny args[1] := rfl
      rw [hb0] at bad good
      clear hb0
      cases hb : argS s wAny args[1] with
      | false =>
        have hbad := bad hb
        simp
        refine no_ic (by simp) m0 mS 0 fun H' nx' hnx low' sol' => ?_
        have g1 := (low' 1 (by omega)).trans m1
        have g2 := (low' 2 (by omega)).trans m2
        simp [g1, g2]
        exact same _ _ _ (HSol.set (HSol.set sol' (by simp)) (by simp)) hbad
      | true =>
        simp
        exact ⟨1 + 1, by omega, ⟨by omega, good hb⟩, Wk.sub (by simp [show IntKind.i64.wrap 1 = 1 by kernel_rfl, show IntKind.i64.wrap 2 = 2 by kernel_rfl, show IntKind.i64.wrap 3 = 3 by kernel_rfl])⟩
    · exact absurd h3 (by omega)
  have ek : k = 2 := by omega
  subst ek
  have hab : argsB s (formB 1) args = true := by
    rw [args_same s (show 1 < 16 by omega), List.all_eq_true]
    intro x hx
    obtain ⟨i, hi, rfl⟩ := List.mem_iff_getElem.1 hx
    simp at hi
    have := ht i (by omega) (by omega)
    rw [List.getD_eq_getElem?_getD, List.getElem?_eq_getElem (by omega), Option.getD_some] at this
    simpa using this
  have e : callW s ((1 : Nat) : Int) args = callR s 1 args := callW_at (by omega) (by rw [← formW_len (show 1 < 16 by omega), hlW]; exact hl) hab
  rw [e] at h
  obtain ⟨a, b, rfl⟩ : ∃ a b, args = [a, b] := len_two hl
  have hfa := hf a (by simp)
  have hr := fits_ref hfa
  simp only [callR, valAt, List.getD_cons_zero, List.getD_cons_succ] at h
  have hab1 : namesB s a 2 = true := by
    simp [argsB, formB] at hab
    exact hab.1
  have a5 : a.kind = 5 := by obtain ⟨n, -, e, -⟩ := names_cell hab1; rw [e]
  obtain ⟨p1, p2⟩ := hr a5
  obtain ⟨n, hnl, rfl⟩ : ∃ (n : Nat) (_ : n < s.cells.length), a = ⟨5, n⟩ := ⟨a.n.toNat, by omega, by cases a; simp at a5 p1 ⊢; exact ⟨a5, by omega⟩⟩
  have hn' : (n : Int) < (s.cells.length : Int) := by omega
  have hvl := (cell_vals hq hnl).2.2
  have hat : cellAt s (n : Int) = s.cells[n] := at_nat hnl
  unfold pushW at h
  simp only [hat] at h
  have hv100 := (cell_vals hq hnl).2.1 (by obtain ⟨n', hn2, e1, e2, e3⟩ := names_cell hab1; have : n = n' := by simp at e1; omega
                                           subst this; omega)
  by_cases c1 : s.cells[n].vals.length = 100
  · rw [if_pos (by omega)] at h
    have c1' : (s.cells[n].vals.length : Int) = 100 := by omega
    simp [m0, hnl, hn', c1, c1']
    refine no_ic (cs := (eState s).map .d) (by simp) (by simp [Hp.set, m0]) ?_ _ fun H' nx' hnx low' sol' => ?_
    · skip
      repeat' (first | exact mS | exact sol' | exact dV_sol _ | exact (valBlk_new _).sol | exact (shpBlk_new _).sol | exact (txtBlk_new _).sol | exact (endBlk_new _).sol | refine hsolN ?_ | refine HSol.set ?_ ?_ | (simp; done))
    have g1 : H' 1 = some ⟨.c 29, 8, [[.d .emp, .d .emp, .d .emp, .d .emp, .d .emp, .d .emp, .d (eI 0), .d (eI 0)]]⟩ := (low' 1 (by omega)).trans (by simp [Hp.set, m1])
    have g2 : H' 2 = some ⟨.c 31, 2, [[.d (eI 0), .d (eI 0)]]⟩ := (low' 2 (by omega)).trans (by simp [Hp.set, m2])
    simp [g1, g2]
    exact same _ _ _ (HSol.set (HSol.set sol' (by simp)) (by simp)) h
  rw [if_neg (by omega)] at h
  have c1' : ¬ (s.cells[n].vals.length : Int) = 100 := by omega
  simp [m0, hnl, hn', c1, c1']
  refine ⟨.inl (by omega), fun _ => ⟨fun m b' hm hb => ?_, .inl (by omega), ?_⟩⟩
  · subst hm
    simp at hb
    subst hb
    exact ⟨rfl, rfl⟩
  have er : List.map ((fun e => List.map C.d e) ∘ eVal) s.cells[n].vals ++ [[C.d (eI b.kind), C.d (eI b.n)]] = (valBlk (s.cells[n].vals ++ [b])).es := by simp [valBlk, Function.comp_def]
  have el : s.cells[n].vals.length + 1 = (s.cells[n].vals ++ [b]).length := by simp
  have hw : IntKind.i64.wrap ((s.cells[n].vals.length : Int) + 1) = (s.cells[n].vals.length : Int) + 1 := wrap_id (by omega) (by omega)
  rw [er, el]
  have hcl : s.cells.length ≤ 300 := by
    have := (cellsQ_iff.1 hq).1
    simp only [heapLarge, Bool.or_eq_false_iff, decide_eq_false_iff_not] at this
    omega
  refine valsSet_ic s n hnl hcl 21 _ ?_ fun H1 low1 sol1 row1 => ?_
  · skip
    repeat' (first | exact mS | exact sol' | exact dV_sol _ | exact (valBlk_new _).sol | exact (shpBlk_new _).sol | exact (txtBlk_new _).sol | exact (endBlk_new _).sol | refine hsolN ?_ | refine HSol.set ?_ ?_ | (simp; done))
  have f0 : H1 0 = some ⟨.c 29, 8, [(eState s).map .d]⟩ := (low1 0 (by omega)).trans (by simp [Hp.set, m0])
  have f1 : H1 1 = some ⟨.c 29, 8, [[.d .emp, .d .emp, .d .emp, .d .emp, .d .emp, .d .emp, .d (eI 0), .d (eI 0)]]⟩ := (low1 1 (by omega)).trans (by simp [Hp.set, m1])
  have f2 : H1 2 = some ⟨.c 31, 2, [[.d (eI 0), .d (eI 0)]]⟩ := (low1 2 (by omega)).trans (by simp [Hp.set, m2])
  have fv : H1 21 = some (valBlk (s.cells[n].vals ++ [b])) := (low1 21 (by omega)).trans (by simp [Hp.set, valBlk])
  clear low1
  simp [f0, hw]
  refine num_ic (cs := cO 24 s.cells.length s) (by simp) (by simp) (HSol.set sol1 (by simp)) _ fun H' nx' hnx low' sol' => ?_
  have g1 : H' 1 = some ⟨.c 29, 8, [[.d .emp, .d .emp, .d .emp, .d .emp, .d .emp, .d .emp, .d (eI 0), .d (eI 0)]]⟩ := (low' 1 (by omega)).trans (by rw [Hp.set_ne _ _ (by omega)]; exact f1)
  have g2 : H' 2 = some ⟨.c 31, 2, [[.d (eI 0), .d (eI 0)]]⟩ := (low' 2 (by omega)).trans (by rw [Hp.set_ne _ _ (by omega)]; exact f2)
  have gv : H' 21 = some (valBlk (s.cells[n].vals ++ [b])) := (low' 21 (by omega)).trans (by rw [Hp.set_ne _ _ (by omega)]; exact fv)
  have gr := (low' 24 (by omega)).trans ((Hp.set_ne _ _ (by omega)).trans row1)
  simp [g1, g2]
  refine and_ofP (HSol.set (HSol.set sol' (by simp)) (by simp)) fun _ => ⟨.tup [aD (eState (setV s ⟨5, n⟩ (s.cells[n].vals ++ [b]))), aD (eVal ⟨2, s.cells[n].vals.length + 1⟩), dI (-1)], ⟨stateC_shw (t := setV s ⟨5, n⟩ (s.cells[n].vals ++ [b])) (s := s) ?_ (.d rfl) ⟨rfl, rfl, rfl, rfl, rfl, rfl⟩, val_shw _, ⟨_, rfl, .d rfl⟩, trivial⟩, h⟩
  have es : (setV s ⟨5, n⟩ (s.cells[n].vals ++ [b])).cells = s.cells.set n ⟨s.cells[n].kind, s.cells[n].num, s.cells[n].vals ++ [b], s.cells[n].frames⟩ := by
    unfold setV setCS
    simp only [hat, Int.toNat_natCast]
  rw [es]
  exact cellsSet_shw _ (by rw [Hp.set_ne _ _ (by omega), Hp.set_ne _ _ (by omega)]; exact gr) (Shw.vals trivial (by rw [Hp.set_ne _ _ (by omega), Hp.set_ne _ _ (by omega)]; exact gv))
theorem callIn10 (s : GState) (hq : cellsQ wordsT s = 0) (args : List GVal) (hf : ∀ v ∈ args, fitsB s v = true) {K : D → List Blk → Prop} (h : K (.tup [aD (eState (callW s (10 : Nat) args).1), aD (eVal (callW s (10 : Nat) args).2.1), dI (callW s (10 : Nat) args).2.2]) []) :
    DPure Tryz.prog 8 [aD (eState s), dI (10 : Nat), dL true (args.map eVal)] K := by
  refine DPure.ofI ?_
  have same : ∀ (X : Hp) (v : GVal) (e : Int), HSol X → K (.tup [aD (eState s), aD (eVal v), dI e]) [] → HSol X ∧ ∃ d', DShw X (fun _ => True) (.tup [aD (eState s), aD (eVal v), dI e]) d' ∧ K d' [] := fun X v e hx hk => ⟨hx, .tup [aD (eState s), aD (eVal v), dI e], ⟨CsS.csShw (CsS.dat (by simp)), val_shw v, ⟨_, rfl, .d rfl⟩, trivial⟩, hk⟩
  refine fni_ok ciKs ciPl Tryz.func8 rfl (by kernel_rfl) rfl rfl rfl rfl (by kernel_rfl) ?_
  rw [vc_seq, vc_region]
  generalize hK1 : onlyK _ _ = K1
  simp
  rw [← hK1]
  clear hK1
  rw [onlyK_mk, thenK_normal, vc_seq, vc_region]
  generalize hK1 : onlyK _ _ = K1
  iterate 17 (rw [vcL_cons]; simp [-vcL_cons])
  rw [vcL_cons]
  simp
  rw [← hK1]
  clear hK1
  rw [onlyK_mk, thenK_normal]
  generalize hM : Hp.set _ _ _ = M
  have m0 : M 0 = some ⟨.c 29, 8, [(eState s).map .d]⟩ := by rw [← hM]; rfl
  have m1 : M 1 = some ⟨.c 29, 8, [[.d .emp, .d .emp, .d .emp, .d .emp, .d .emp, .d .emp, .d (eI 0), .d (eI 0)]]⟩ := by rw [← hM]; rfl
  have m2 : M 2 = some ⟨.c 31, 2, [[.d (eI 0), .d (eI 0)]]⟩ := by rw [← hM]; rfl
  have m3 : M 3 = some ⟨.c 9, 1, [[.d (eS wAny)]]⟩ := by rw [← hM]; rfl
  have m4 : M 4 = some ⟨.c 9, 1, [[.d (eS wList)], [.d (eS wAny)]]⟩ := by rw [← hM]; rfl
  have m5 : M 5 = some ⟨.c 9, 1, [[.d (eS wList)]]⟩ := by rw [← hM]; rfl
  have m6 : M 6 = some ⟨.c 9, 1, [[.d (eS wObj)]]⟩ := by rw [← hM]; rfl
  have m7 : M 7 = some ⟨.c 9, 1, [[.d (eS wAny)]]⟩ := by rw [← hM]; rfl
  have m8 : M 8 = some ⟨.c 9, 1, [[.d (eS wAny)]]⟩ := by rw [← hM]; rfl
  have m9 : M 9 = some ⟨.c 9, 1, [[.d (eS wInt)]]⟩ := by rw [← hM]; rfl
  have m10 : M 10 = some ⟨.c 9, 1, [[.d (eS wFlo)]]⟩ := by rw [← hM]; rfl
  have m11 : M 11 = some ⟨.c 9, 1, [[.d (eS wGen)], [.d (eS wAny)]]⟩ := by rw [← hM]; rfl
  have m12 : M 12 = some ⟨.c 9, 1, [[.d (eS wGen)]]⟩ := by rw [← hM]; rfl
  have m13 : M 13 = some ⟨.c 9, 1, [[.d (eS wWeak)], [.d (eS wRef)], [.d (eS wAny)]]⟩ := by rw [← hM]; rfl
  have m14 : M 14 = some ⟨.c 9, 1, [[.d (eS wWeak)], [.d (eS wRef)]]⟩ := by rw [← hM]; rfl
  have m15 : M 15 = some ⟨.c 9, 1, [[.d (eS wRef)], [.d (eS wFun)]]⟩ := by rw [← hM]; rfl
  have m16 : M 16 = some ⟨.c 24, 1, [[C.own 3 1 1], [C.own 4 1 2], [C.own 5 1 1], [C.own 6 1 1], [C.own 7 1 1], [C.own 8 1 1], [C.own 9 1 1], [C.own 10 1 1], [C.own 11 1 2], [C.own 12 1 1], [C.d Dt.emp], [C.d Dt.emp], [C.own 13 1 3], [C.own 14 1 2], [C.own 15 1 2], [C.d Dt.emp]]⟩ := by rw [← hM]; rfl
  have mS : HSol M := by
    rw [← hM]
    repeat' (first | exact HSol.nil | exact HSol.zero | refine HSol.set ?_ ?_ | (simp; done))
  clear hM
  simp
  refine between_ok _ _ _ ?_
  have hb1 : btw ((10 : Nat) : Int) 0 15 = true := rfl
  have hlW : (formW 10).length = 0 := rfl
  by_cases hl : args.length = 0
  case neg =>
    have e : callW s ((10 : Nat) : Int) args = (s, nilG, 7) := by
      unfold callW
      rw [if_neg (by decide), if_pos (by rw [Int.toNat_natCast, ← formW_len (show 10 < 16 by omega), hlW]; exact hl)]
    rw [e] at h
    have hl' : ¬ (args.length : Int) = 0 := by omega
    simp [hb1, m16, hl, hl']
    intro _
    refine no_ic (by simp) m0 mS 7 fun H' nx' hnx low' sol' => ?_
    have g1 := (low' 1 (by omega)).trans m1
    have g2 := (low' 2 (by omega)).trans m2
    simp [g1, g2]
    exact same _ _ _ (HSol.set (HSol.set sol' (by simp)) (by simp)) h
  have hl' : (args.length : Int) = 0 := by omega
  simp [hb1, m16, hl, hl']
  refine loop_ok (ks := ciKs) (pl := ciPl) (n0 := 422) (fun x : {k : Nat // k ≤ 0 ∧ ∀ j (_ : j < args.length), j < k → argS s ((formW 10).getD j wAny) args[j] = true} => [(70, dI x.1)]) (fun x => 0 - x.1) ⟨0, by omega, fun j _ h => absurd h (Nat.not_lt_zero _)⟩ rfl (by kernel_rfl) (Wk.sub (by simp)) ?_
  rintro ⟨k, hk, ht⟩
  by_cases h3 : k < 0
  case pos =>
    have bad : argS s ((formW 10).getD k wAny) args[k] = false → K (.tup [aD (eState s), aD (eVal nilG), dI 0]) [] := fun hb => by
      have e : callW s ((10 : Nat) : Int) args = (s, nilG, 0) := by
        unfold callW
        rw [if_neg (by decide), if_neg (by rw [Int.toNat_natCast, ← formW_len (show 10 < 16 by omega), hlW]; omega), if_pos ?_]
        rw [Int.toNat_natCast, Bool.eq_false_iff, args_same s (show 10 < 16 by omega)]
        intro hall
        rw [List.all_eq_true] at hall
        have := hall ((formW 10)[k]'(by omega), args[k]) (List.mem_iff_getElem.2 ⟨k, by simp; omega, by simp⟩)
        rw [List.getD_eq_getElem?_getD, List.getElem?_eq_getElem (by omega), Option.getD_some] at hb
        simp only at this
        rw [hb] at this
        cases this
      rw [e] at h
      exact h
    have good : argS s ((formW 10).getD k wAny) args[k] = true → ∀ j (_ : j < args.length), j < k + 1 → argS s ((formW 10).getD j wAny) args[j] = true := fun hb j hj hjk => by
      by_cases ej : j = k
      · subst ej; exact hb
      · exact ht j hj (by omega)
    have hka : k < args.length := by omega
    have hka' : (k : Int) < (args.length : Int) := by omega
    have hk3 : k = 0 ∨ k = 1 ∨ k = 2 := by omega
    exact absurd h3 (by omega)
  have ek : k = 0 := by omega
  subst ek
  have hab : argsB s (formB 10) args = true := by
    rw [args_same s (show 10 < 16 by omega), List.all_eq_true]
    intro x hx
    obtain ⟨i, hi, rfl⟩ := List.mem_iff_getElem.1 hx
    simp at hi
    have := ht i (by omega) (by omega)
    rw [List.getD_eq_getElem?_getD, List.getElem?_eq_getElem (by omega), Option.getD_some] at this
    simpa using this
  have e : callW s ((10 : Nat) : Int) args = callR s 10 args := callW_at (by omega) (by rw [← formW_len (show 10 < 16 by omega), hlW]; exact hl) hab
  rw [e] at h
  obtain rfl : args = [] := List.length_eq_zero_iff.1 hl
  simp only [callR] at h
  have hcl : s.cells.length ≤ 300 := by
    have := (cellsQ_iff.1 hq).1
    simp only [heapLarge, Bool.or_eq_false_iff, decide_eq_false_iff_not] at this
    omega
  unfold makeW at h
  simp [m0]
  refine cellMade_ic s hcl 6 (-1) (.d .emp) rfl ?_ (fun hb H' nx' hnx low' sol' => ?_) (fun hb H' nC nx' hn1 hn2 low' sol' row' => ?_)
  · skip
    repeat' (first | exact mS | exact sol' | exact dV_sol _ | exact (valBlk_new _).sol | exact (shpBlk_new _).sol | exact (txtBlk_new _).sol | exact (endBlk_new _).sol | refine hsolN ?_ | refine HSol.set ?_ ?_ | (simp; done))
  · rw [if_pos hb] at h
    have g1 : H' 1 = some ⟨.c 29, 8, [[.d .emp, .d .emp, .d .emp, .d .emp, .d .emp, .d .emp, .d (eI 0), .d (eI 0)]]⟩ := (low' 1 (by omega)).trans (by simp [Hp.set, m1])
    have g2 : H' 2 = some ⟨.c 31, 2, [[.d (eI 0), .d (eI 0)]]⟩ := (low' 2 (by omega)).trans (by simp [Hp.set, m2])
    simp [g1, g2]
    exact same _ _ _ (HSol.set (HSol.set sol' (by simp)) (by simp)) h
  · rw [if_neg hb] at h
    have g1 : H' 1 = some ⟨.c 29, 8, [[.d .emp, .d .emp, .d .emp, .d .emp, .d .emp, .d .emp, .d (eI 0), .d (eI 0)]]⟩ := (low' 1 (by omega)).trans (by simp [Hp.set, m1])
    have g2 : H' 2 = some ⟨.c 31, 2, [[.d (eI 0), .d (eI 0)]]⟩ := (low' 2 (by omega)).trans (by simp [Hp.set, m2])
    simp [g1, g2]
    exact and_ofP (HSol.set (HSol.set sol' (by simp)) (by simp)) fun _ => ⟨.tup [aD (eState (s.addC ⟨6, -1, [], []⟩)), aD (eVal ⟨5, s.cells.length⟩), dI (-1)], ⟨stateC_shw (t := s.addC ⟨6, -1, [], []⟩) (s := s) (cellsAdd_shw ⟨6, -1, [], []⟩ (by rw [Hp.set_ne _ _ (by omega), Hp.set_ne _ _ (by omega)]; exact row') .emp .emp) (.d rfl) ⟨rfl, rfl, rfl, rfl, rfl, rfl⟩, val_shw _, ⟨_, rfl, .d rfl⟩, trivial⟩, h⟩
theorem callIn11 (s : GState) (hq : cellsQ wordsT s = 0) (args : List GVal) (hf : ∀ v ∈ args, fitsB s v = true) {K : D → List Blk → Prop} (h : K (.tup [aD (eState (callW s (11 : Nat) args).1), aD (eVal (callW s (11 : Nat) args).2.1), dI (callW s (11 : Nat) args).2.2]) []) :
    DPure Tryz.prog 8 [aD (eState s), dI (11 : Nat), dL true (args.map eVal)] K := by
  refine DPure.ofI ?_
  have same : ∀ (X : Hp) (v : GVal) (e : Int), HSol X → K (.tup [aD (eState s), aD (eVal v), dI e]) [] → HSol X ∧ ∃ d', DShw X (fun _ => True) (.tup [aD (eState s), aD (eVal v), dI e]) d' ∧ K d' [] := fun X v e hx hk => ⟨hx, .tup [aD (eState s), aD (eVal v), dI e], ⟨CsS.csShw (CsS.dat (by simp)), val_shw v, ⟨_, rfl, .d rfl⟩, trivial⟩, hk⟩
  refine fni_ok ciKs ciPl Tryz.func8 rfl (by kernel_rfl) rfl rfl rfl rfl (by kernel_rfl) ?_
  rw [vc_seq, vc_region]
  generalize hK1 : onlyK _ _ = K1
  simp
  rw [← hK1]
  clear hK1
  rw [onlyK_mk, thenK_normal, vc_seq, vc_region]
  generalize hK1 : onlyK _ _ = K1
  iterate 17 (rw [vcL_cons]; simp [-vcL_cons])
  rw [vcL_cons]
  simp
  rw [← hK1]
  clear hK1
  rw [onlyK_mk, thenK_normal]
  generalize hM : Hp.set _ _ _ = M
  have m0 : M 0 = some ⟨.c 29, 8, [(eState s).map .d]⟩ := by rw [← hM]; rfl
  have m1 : M 1 = some ⟨.c 29, 8, [[.d .emp, .d .emp, .d .emp, .d .emp, .d .emp, .d .emp, .d (eI 0), .d (eI 0)]]⟩ := by rw [← hM]; rfl
  have m2 : M 2 = some ⟨.c 31, 2, [[.d (eI 0), .d (eI 0)]]⟩ := by rw [← hM]; rfl
  have m3 : M 3 = some ⟨.c 9, 1, [[.d (eS wAny)]]⟩ := by rw [← hM]; rfl
  have m4 : M 4 = some ⟨.c 9, 1, [[.d (eS wList)], [.d (eS wAny)]]⟩ := by rw [← hM]; rfl
  have m5 : M 5 = some ⟨.c 9, 1, [[.d (eS wList)]]⟩ := by rw [← hM]; rfl
  have m6 : M 6 = some ⟨.c 9, 1, [[.d (eS wObj)]]⟩ := by rw [← hM]; rfl
  have m7 : M 7 = some ⟨.c 9, 1, [[.d (eS wAny)]]⟩ := by rw [← hM]; rfl
  have m8 : M 8 = some ⟨.c 9, 1, [[.d (eS wAny)]]⟩ := by rw [← hM]; rfl
  have m9 : M 9 = some ⟨.c 9, 1, [[.d (eS wInt)]]⟩ := by rw [← hM]; rfl
  have m10 : M 10 = some ⟨.c 9, 1, [[.d (eS wFlo)]]⟩ := by rw [← hM]; rfl
  have m11 : M 11 = some ⟨.c 9, 1, [[.d (eS wGen)], [.d (eS wAny)]]⟩ := by rw [← hM]; rfl
  have m12 : M 12 = some ⟨.c 9, 1, [[.d (eS wGen)]]⟩ := by rw [← hM]; rfl
  have m13 : M 13 = some ⟨.c 9, 1, [[.d (eS wWeak)], [.d (eS wRef)], [.d (eS wAny)]]⟩ := by rw [← hM]; rfl
  have m14 : M 14 = some ⟨.c 9, 1, [[.d (eS wWeak)], [.d (eS wRef)]]⟩ := by rw [← hM]; rfl
  have m15 : M 15 = some ⟨.c 9, 1, [[.d (eS wRef)], [.d (eS wFun)]]⟩ := by rw [← hM]; rfl
  have m16 : M 16 = some ⟨.c 24, 1, [[C.own 3 1 1], [C.own 4 1 2], [C.own 5 1 1], [C.own 6 1 1], [C.own 7 1 1], [C.own 8 1 1], [C.own 9 1 1], [C.own 10 1 1], [C.own 11 1 2], [C.own 12 1 1], [C.d Dt.emp], [C.d Dt.emp], [C.own 13 1 3], [C.own 14 1 2], [C.own 15 1 2], [C.d Dt.emp]]⟩ := by rw [← hM]; rfl
  have mS : HSol M := by
    rw [← hM]
    repeat' (first | exact HSol.nil | exact HSol.zero | refine HSol.set ?_ ?_ | (simp; done))
  clear hM
  simp
  refine between_ok _ _ _ ?_
  have hb1 : btw ((11 : Nat) : Int) 0 15 = true := rfl
  have hlW : (formW 11).length = 0 := rfl
  by_cases hl : args.length = 0
  case neg =>
    have e : callW s ((11 : Nat) : Int) args = (s, nilG, 7) := by
      unfold callW
      rw [if_neg (by decide), if_pos (by rw [Int.toNat_natCast, ← formW_len (show 11 < 16 by omega), hlW]; exact hl)]
    rw [e] at h
    have hl' : ¬ (args.length : Int) = 0 := by omega
    simp [hb1, m16, hl, hl']
    intro _
    refine no_ic (by simp) m0 mS 7 fun H' nx' hnx low' sol' => ?_
    have g1 := (low' 1 (by omega)).trans m1
    have g2 := (low' 2 (by omega)).trans m2
    simp [g1, g2]
    exact same _ _ _ (HSol.set (HSol.set sol' (by simp)) (by simp)) h
  have hl' : (args.length : Int) = 0 := by omega
  simp [hb1, m16, hl, hl']
  refine loop_ok (ks := ciKs) (pl := ciPl) (n0 := 422) (fun x : {k : Nat // k ≤ 0 ∧ ∀ j (_ : j < args.length), j < k → argS s ((formW 11).getD j wAny) args[j] = true} => [(70, dI x.1)]) (fun x => 0 - x.1) ⟨0, by omega, fun j _ h => absurd h (Nat.not_lt_zero _)⟩ rfl (by kernel_rfl) (Wk.sub (by simp)) ?_
  rintro ⟨k, hk, ht⟩
  by_cases h3 : k < 0
  case pos =>
    have bad : argS s ((formW 11).getD k wAny) args[k] = false → K (.tup [aD (eState s), aD (eVal nilG), dI 0]) [] := fun hb => by
      have e : callW s ((11 : Nat) : Int) args = (s, nilG, 0) := by
        unfold callW
        rw [if_neg (by decide), if_neg (by rw [Int.toNat_natCast, ← formW_len (show 11 < 16 by omega), hlW]; omega), if_pos ?_]
        rw [Int.toNat_natCast, Bool.eq_false_iff, args_same s (show 11 < 16 by omega)]
        intro hall
        rw [List.all_eq_true] at hall
        have := hall ((formW 11)[k]'(by omega), args[k]) (List.mem_iff_getElem.2 ⟨k, by simp; omega, by simp⟩)
        rw [List.getD_eq_getElem?_getD, List.getElem?_eq_getElem (by omega), Option.getD_some] at hb
        simp only at this
        rw [hb] at this
        cases this
      rw [e] at h
      exact h
    have good : argS s ((formW 11).getD k wAny) args[k] = true → ∀ j (_ : j < args.length), j < k + 1 → argS s ((formW 11).getD j wAny) args[j] = true := fun hb j hj hjk => by
      by_cases ej : j = k
      · subst ej; exact hb
      · exact ht j hj (by omega)
    have hka : k < args.length := by omega
    have hka' : (k : Int) < (args.length : Int) := by omega
    have hk3 : k = 0 ∨ k = 1 ∨ k = 2 := by omega
    exact absurd h3 (by omega)
  have ek : k = 0 := by omega
  subst ek
  have hab : argsB s (formB 11) args = true := by
    rw [args_same s (show 11 < 16 by omega), List.all_eq_true]
    intro x hx
    obtain ⟨i, hi, rfl⟩ := List.mem_iff_getElem.1 hx
    simp at hi
    have := ht i (by omega) (by omega)
    rw [List.getD_eq_getElem?_getD, List.getElem?_eq_getElem (by omega), Option.getD_some] at this
    simpa using this
  have e : callW s ((11 : Nat) : Int) args = callR s 11 args := callW_at (by omega) (by rw [← formW_len (show 11 < 16 by omega), hlW]; exact hl) hab
  rw [e] at h
  obtain rfl : args = [] := List.length_eq_zero_iff.1 hl
  simp only [callR] at h
  have hcl : s.cells.length ≤ 300 := by
    have := (cellsQ_iff.1 hq).1
    simp only [heapLarge, Bool.or_eq_false_iff, decide_eq_false_iff_not] at this
    omega
  unfold makeW at h
  simp [m0]
  refine cellMade_ic s hcl 7 (0) (.d .emp) rfl ?_ (fun hb H' nx' hnx low' sol' => ?_) (fun hb H' nC nx' hn1 hn2 low' sol' row' => ?_)
  · skip
    repeat' (first | exact mS | exact sol' | exact dV_sol _ | exact (valBlk_new _).sol | exact (shpBlk_new _).sol | exact (txtBlk_new _).sol | exact (endBlk_new _).sol | refine hsolN ?_ | refine HSol.set ?_ ?_ | (simp; done))
  · rw [if_pos hb] at h
    have g1 : H' 1 = some ⟨.c 29, 8, [[.d .emp, .d .emp, .d .emp, .d .emp, .d .emp, .d .emp, .d (eI 0), .d (eI 0)]]⟩ := (low' 1 (by omega)).trans (by simp [Hp.set, m1])
    have g2 : H' 2 = some ⟨.c 31, 2, [[.d (eI 0), .d (eI 0)]]⟩ := (low' 2 (by omega)).trans (by simp [Hp.set, m2])
    simp [g1, g2]
    exact same _ _ _ (HSol.set (HSol.set sol' (by simp)) (by simp)) h
  · rw [if_neg hb] at h
    have g1 : H' 1 = some ⟨.c 29, 8, [[.d .emp, .d .emp, .d .emp, .d .emp, .d .emp, .d .emp, .d (eI 0), .d (eI 0)]]⟩ := (low' 1 (by omega)).trans (by simp [Hp.set, m1])
    have g2 : H' 2 = some ⟨.c 31, 2, [[.d (eI 0), .d (eI 0)]]⟩ := (low' 2 (by omega)).trans (by simp [Hp.set, m2])
    simp [g1, g2]
    exact and_ofP (HSol.set (HSol.set sol' (by simp)) (by simp)) fun _ => ⟨.tup [aD (eState (s.addC ⟨7, 0, [], []⟩)), aD (eVal ⟨5, s.cells.length⟩), dI (-1)], ⟨stateC_shw (t := s.addC ⟨7, 0, [], []⟩) (s := s) (cellsAdd_shw ⟨7, 0, [], []⟩ (by rw [Hp.set_ne _ _ (by omega), Hp.set_ne _ _ (by omega)]; exact row') .emp .emp) (.d rfl) ⟨rfl, rfl, rfl, rfl, rfl, rfl⟩, val_shw _, ⟨_, rfl, .d rfl⟩, trivial⟩, h⟩
theorem callIn15 (s : GState) (hq : cellsQ wordsT s = 0) (args : List GVal) (hf : ∀ v ∈ args, fitsB s v = true) {K : D → List Blk → Prop} (h : K (.tup [aD (eState (callW s (15 : Nat) args).1), aD (eVal (callW s (15 : Nat) args).2.1), dI (callW s (15 : Nat) args).2.2]) []) :
    DPure Tryz.prog 8 [aD (eState s), dI (15 : Nat), dL true (args.map eVal)] K := by
  refine DPure.ofI ?_
  have same : ∀ (X : Hp) (v : GVal) (e : Int), HSol X → K (.tup [aD (eState s), aD (eVal v), dI e]) [] → HSol X ∧ ∃ d', DShw X (fun _ => True) (.tup [aD (eState s), aD (eVal v), dI e]) d' ∧ K d' [] := fun X v e hx hk => ⟨hx, .tup [aD (eState s), aD (eVal v), dI e], ⟨CsS.csShw (CsS.dat (by simp)), val_shw v, ⟨_, rfl, .d rfl⟩, trivial⟩, hk⟩
  refine fni_ok ciKs ciPl Tryz.func8 rfl (by kernel_rfl) rfl rfl rfl rfl (by kernel_rfl) ?_
  rw [vc_seq, vc_region]
  generalize hK1 : onlyK _ _ = K1
  simp
  rw [← hK1]
  clear hK1
  rw [onlyK_mk, thenK_normal, vc_seq, vc_region]
  generalize hK1 : onlyK _ _ = K1
  iterate 17 (rw [vcL_cons]; simp [-vcL_cons])
  rw [vcL_cons]
  simp
  rw [← hK1]
  clear hK1
  rw [onlyK_mk, thenK_normal]
  generalize hM : Hp.set _ _ _ = M
  have m0 : M 0 = some ⟨.c 29, 8, [(eState s).map .d]⟩ := by rw [← hM]; rfl
  have m1 : M 1 = some ⟨.c 29, 8, [[.d .emp, .d .emp, .d .emp, .d .emp, .d .emp, .d .emp, .d (eI 0), .d (eI 0)]]⟩ := by rw [← hM]; rfl
  have m2 : M 2 = some ⟨.c 31, 2, [[.d (eI 0), .d (eI 0)]]⟩ := by rw [← hM]; rfl
  have m3 : M 3 = some ⟨.c 9, 1, [[.d (eS wAny)]]⟩ := by rw [← hM]; rfl
  have m4 : M 4 = some ⟨.c 9, 1, [[.d (eS wList)], [.d (eS wAny)]]⟩ := by rw [← hM]; rfl
  have m5 : M 5 = some ⟨.c 9, 1, [[.d (eS wList)]]⟩ := by rw [← hM]; rfl
  have m6 : M 6 = some ⟨.c 9, 1, [[.d (eS wObj)]]⟩ := by rw [← hM]; rfl
  have m7 : M 7 = some ⟨.c 9, 1, [[.d (eS wAny)]]⟩ := by rw [← hM]; rfl
  have m8 : M 8 = some ⟨.c 9, 1, [[.d (eS wAny)]]⟩ := by rw [← hM]; rfl
  have m9 : M 9 = some ⟨.c 9, 1, [[.d (eS wInt)]]⟩ := by rw [← hM]; rfl
  have m10 : M 10 = some ⟨.c 9, 1, [[.d (eS wFlo)]]⟩ := by rw [← hM]; rfl
  have m11 : M 11 = some ⟨.c 9, 1, [[.d (eS wGen)], [.d (eS wAny)]]⟩ := by rw [← hM]; rfl
  have m12 : M 12 = some ⟨.c 9, 1, [[.d (eS wGen)]]⟩ := by rw [← hM]; rfl
  have m13 : M 13 = some ⟨.c 9, 1, [[.d (eS wWeak)], [.d (eS wRef)], [.d (eS wAny)]]⟩ := by rw [← hM]; rfl
  have m14 : M 14 = some ⟨.c 9, 1, [[.d (eS wWeak)], [.d (eS wRef)]]⟩ := by rw [← hM]; rfl
  have m15 : M 15 = some ⟨.c 9, 1, [[.d (eS wRef)], [.d (eS wFun)]]⟩ := by rw [← hM]; rfl
  have m16 : M 16 = some ⟨.c 24, 1, [[C.own 3 1 1], [C.own 4 1 2], [C.own 5 1 1], [C.own 6 1 1], [C.own 7 1 1], [C.own 8 1 1], [C.own 9 1 1], [C.own 10 1 1], [C.own 11 1 2], [C.own 12 1 1], [C.d Dt.emp], [C.d Dt.emp], [C.own 13 1 3], [C.own 14 1 2], [C.own 15 1 2], [C.d Dt.emp]]⟩ := by rw [← hM]; rfl
  have mS : HSol M := by
    rw [← hM]
    repeat' (first | exact HSol.nil | exact HSol.zero | refine HSol.set ?_ ?_ | (simp; done))
  clear hM
  simp
  refine between_ok _ _ _ ?_
  have hb1 : btw ((15 : Nat) : Int) 0 15 = true := rfl
  have hlW : (formW 15).length = 0 := rfl
  by_cases hl : args.length = 0
  case neg =>
    have e : callW s ((15 : Nat) : Int) args = (s, nilG, 7) := by
      unfold callW
      rw [if_neg (by decide), if_pos (by rw [Int.toNat_natCast, ← formW_len (show 15 < 16 by omega), hlW]; exact hl)]
    rw [e] at h
    have hl' : ¬ (args.length : Int) = 0 := by omega
    simp [hb1, m16, hl, hl']
    intro _
    refine no_ic (by simp) m0 mS 7 fun H' nx' hnx low' sol' => ?_
    have g1 := (low' 1 (by omega)).trans m1
    have g2 := (low' 2 (by omega)).trans m2
    simp [g1, g2]
    exact same _ _ _ (HSol.set (HSol.set sol' (by simp)) (by simp)) h
  have hl' : (args.length : Int) = 0 := by omega
  simp [hb1, m16, hl, hl']
  refine loop_ok (ks := ciKs) (pl := ciPl) (n0 := 422) (fun x : {k : Nat // k ≤ 0 ∧ ∀ j (_ : j < args.length), j < k → argS s ((formW 15).getD j wAny) args[j] = true} => [(70, dI x.1)]) (fun x => 0 - x.1) ⟨0, by omega, fun j _ h => absurd h (Nat.not_lt_zero _)⟩ rfl (by kernel_rfl) (Wk.sub (by simp)) ?_
  rintro ⟨k, hk, ht⟩
  by_cases h3 : k < 0
  case pos =>
    have bad : argS s ((formW 15).getD k wAny) args[k] = false → K (.tup [aD (eState s), aD (eVal nilG), dI 0]) [] := fun hb => by
      have e : callW s ((15 : Nat) : Int) args = (s, nilG, 0) := by
        unfold callW
        rw [if_neg (by decide), if_neg (by rw [Int.toNat_natCast, ← formW_len (show 15 < 16 by omega), hlW]; omega), if_pos ?_]
        rw [Int.toNat_natCast, Bool.eq_false_iff, args_same s (show 15 < 16 by omega)]
        intro hall
        rw [List.all_eq_true] at hall
        have := hall ((formW 15)[k]'(by omega), args[k]) (List.mem_iff_getElem.2 ⟨k, by simp; omega, by simp⟩)
        rw [List.getD_eq_getElem?_getD, List.getElem?_eq_getElem (by omega), Option.getD_some] at hb
        simp only at this
        rw [hb] at this
        cases this
      rw [e] at h
      exact h
    have good : argS s ((formW 15).getD k wAny) args[k] = true → ∀ j (_ : j < args.length), j < k + 1 → argS s ((formW 15).getD j wAny) args[j] = true := fun hb j hj hjk => by
      by_cases ej : j = k
      · subst ej; exact hb
      · exact ht j hj (by omega)
    have hka : k < args.length := by omega
    have hka' : (k : Int) < (args.length : Int) := by omega
    have hk3 : k = 0 ∨ k = 1 ∨ k = 2 := by omega
    exact absurd h3 (by omega)
  have ek : k = 0 := by omega
  subst ek
  have hab : argsB s (formB 15) args = true := by
    rw [args_same s (show 15 < 16 by omega), List.all_eq_true]
    intro x hx
    obtain ⟨i, hi, rfl⟩ := List.mem_iff_getElem.1 hx
    simp at hi
    have := ht i (by omega) (by omega)
    rw [List.getD_eq_getElem?_getD, List.getElem?_eq_getElem (by omega), Option.getD_some] at this
    simpa using this
  have e : callW s ((15 : Nat) : Int) args = callR s 15 args := callW_at (by omega) (by rw [← formW_len (show 15 < 16 by omega), hlW]; exact hl) hab
  rw [e] at h
  obtain rfl : args = [] := List.length_eq_zero_iff.1 hl
  simp only [callR] at h
  simp [m0]
  refine no_ic (cs := (eState s).map .d) (by simp) (by simp [Hp.set, m0]) ?_ _ fun H' nx' hnx low' sol' => ?_
  · skip
    repeat' (first | exact mS | exact sol' | exact dV_sol _ | exact (valBlk_new _).sol | exact (shpBlk_new _).sol | exact (txtBlk_new _).sol | exact (endBlk_new _).sol | refine hsolN ?_ | refine HSol.set ?_ ?_ | (simp; done))
  have g1 : H' 1 = some ⟨.c 29, 8, [[.d .emp, .d .emp, .d .emp, .d .emp, .d .emp, .d .emp, .d (eI 0), .d (eI 0)]]⟩ := (low' 1 (by omega)).trans (by simp [Hp.set, m1])
  have g2 : H' 2 = some ⟨.c 31, 2, [[.d (eI 0), .d (eI 0)]]⟩ := (low' 2 (by omega)).trans (by simp [Hp.set, m2])
  simp [g1, g2]
  exact same _ _ _ (HSol.set (HSol.set sol' (by simp)) (by simp)) h
theorem callIn8 (s : GState) (hq : cellsQ wordsT s = 0) (args : List GVal) (hf : ∀ v ∈ args, fitsB s v = true) {K : D → List Blk → Prop} (h : K (.tup [aD (eState (callW s (8 : Nat) args).1), aD (eVal (callW s (8 : Nat) args).2.1), dI (callW s (8 : Nat) args).2.2]) []) :
    DPure Tryz.prog 8 [aD (eState s), dI (8 : Nat), dL true (args.map eVal)] K := by
  refine DPure.ofI ?_
  have same : ∀ (X : Hp) (v : GVal) (e : Int), HSol X → K (.tup [aD (eState s), aD (eVal v), dI e]) [] → HSol X ∧ ∃ d', DShw X (fun _ => True) (.tup [aD (eState s), aD (eVal v), dI e]) d' ∧ K d' [] := fun X v e hx hk => ⟨hx, .tup [aD (eState s), aD (eVal v), dI e], ⟨CsS.csShw (CsS.dat (by simp)), val_shw v, ⟨_, rfl, .d rfl⟩, trivial⟩, hk⟩
  refine fni_ok ciKs ciPl Tryz.func8 rfl (by kernel_rfl) rfl rfl rfl rfl (by kernel_rfl) ?_
  rw [vc_seq, vc_region]
  generalize hK1 : onlyK _ _ = K1
  simp
  rw [← hK1]
  clear hK1
  rw [onlyK_mk, thenK_normal, vc_seq, vc_region]
  generalize hK1 : onlyK _ _ = K1
  iterate 17 (rw [vcL_cons]; simp [-vcL_cons])
  rw [vcL_cons]
  simp
  rw [← hK1]
  clear hK1
  rw [onlyK_mk, thenK_normal]
  generalize hM : Hp.set _ _ _ = M
  have m0 : M 0 = some ⟨.c 29, 8, [(eState s).map .d]⟩ := by rw [← hM]; rfl
  have m1 : M 1 = some ⟨.c 29, 8, [[.d .emp, .d .emp, .d .emp, .d .emp, .d .emp, .d .emp, .d (eI 0), .d (eI 0)]]⟩ := by rw [← hM]; rfl
  have m2 : M 2 = some ⟨.c 31, 2, [[.d (eI 0), .d (eI 0)]]⟩ := by rw [← hM]; rfl
  have m3 : M 3 = some ⟨.c 9, 1, [[.d (eS wAny)]]⟩ := by rw [← hM]; rfl
  have m4 : M 4 = some ⟨.c 9, 1, [[.d (eS wList)], [.d (eS wAny)]]⟩ := by rw [← hM]; rfl
  have m5 : M 5 = some ⟨.c 9, 1, [[.d (eS wList)]]⟩ := by rw [← hM]; rfl
  have m6 : M 6 = some ⟨.c 9, 1, [[.d (eS wObj)]]⟩ := by rw [← hM]; rfl
  have m7 : M 7 = some ⟨.c 9, 1, [[.d (eS wAny)]]⟩ := by rw [← hM]; rfl
  have m8 : M 8 = some ⟨.c 9, 1, [[.d (eS wAny)]]⟩ := by rw [← hM]; rfl
  have m9 : M 9 = some ⟨.c 9, 1, [[.d (eS wInt)]]⟩ := by rw [← hM]; rfl
  have m10 : M 10 = some ⟨.c 9, 1, [[.d (eS wFlo)]]⟩ := by rw [← hM]; rfl
  have m11 : M 11 = some ⟨.c 9, 1, [[.d (eS wGen)], [.d (eS wAny)]]⟩ := by rw [← hM]; rfl
  have m12 : M 12 = some ⟨.c 9, 1, [[.d (eS wGen)]]⟩ := by rw [← hM]; rfl
  have m13 : M 13 = some ⟨.c 9, 1, [[.d (eS wWeak)], [.d (eS wRef)], [.d (eS wAny)]]⟩ := by rw [← hM]; rfl
  have m14 : M 14 = some ⟨.c 9, 1, [[.d (eS wWeak)], [.d (eS wRef)]]⟩ := by rw [← hM]; rfl
  have m15 : M 15 = some ⟨.c 9, 1, [[.d (eS wRef)], [.d (eS wFun)]]⟩ := by rw [← hM]; rfl
  have m16 : M 16 = some ⟨.c 24, 1, [[C.own 3 1 1], [C.own 4 1 2], [C.own 5 1 1], [C.own 6 1 1], [C.own 7 1 1], [C.own 8 1 1], [C.own 9 1 1], [C.own 10 1 1], [C.own 11 1 2], [C.own 12 1 1], [C.d Dt.emp], [C.d Dt.emp], [C.own 13 1 3], [C.own 14 1 2], [C.own 15 1 2], [C.d Dt.emp]]⟩ := by rw [← hM]; rfl
  have mS : HSol M := by
    rw [← hM]
    repeat' (first | exact HSol.nil | exact HSol.zero | refine HSol.set ?_ ?_ | (simp; done))
  clear hM
  simp
  refine between_ok _ _ _ ?_
  have hb1 : btw ((8 : Nat) : Int) 0 15 = true := rfl
  have hlW : (formW 8).length = 2 := rfl
  by_cases hl : args.length = 2
  case neg =>
    have e : callW s ((8 : Nat) : Int) args = (s, nilG, 7) := by
      unfold callW
      rw [if_neg (by decide), if_pos (by rw [Int.toNat_natCast, ← formW_len (show 8 < 16 by omega), hlW]; exact hl)]
    rw [e] at h
    have hl' : ¬ (args.length : Int) = 2 := by omega
    simp [hb1, m16, hl, hl']
    intro _
    refine no_ic (by simp) m0 mS 7 fun H' nx' hnx low' sol' => ?_
    have g1 := (low' 1 (by omega)).trans m1
    have g2 := (low' 2 (by omega)).trans m2
    simp [g1, g2]
    exact same _ _ _ (HSol.set (HSol.set sol' (by simp)) (by simp)) h
  have hl' : (args.length : Int) = 2 := by omega
  simp [hb1, m16, hl, hl']
  refine loop_ok (ks := ciKs) (pl := ciPl) (n0 := 422) (fun x : {k : Nat // k ≤ 2 ∧ ∀ j (_ : j < args.length), j < k → argS s ((formW 8).getD j wAny) args[j] = true} => [(70, dI x.1)]) (fun x => 2 - x.1) ⟨0, by omega, fun j _ h => absurd h (Nat.not_lt_zero _)⟩ rfl (by kernel_rfl) (Wk.sub (by simp)) ?_
  rintro ⟨k, hk, ht⟩
  by_cases h3 : k < 2
  case pos =>
    have bad : argS s ((formW 8).getD k wAny) args[k] = false → K (.tup [aD (eState s), aD (eVal nilG), dI 0]) [] := fun hb => by
      have e : callW s ((8 : Nat) : Int) args = (s, nilG, 0) := by
        unfold callW
        rw [if_neg (by decide), if_neg (by rw [Int.toNat_natCast, ← formW_len (show 8 < 16 by omega), hlW]; omega), if_pos ?_]
        rw [Int.toNat_natCast, Bool.eq_false_iff, args_same s (show 8 < 16 by omega)]
        intro hall
        rw [List.all_eq_true] at hall
        have := hall ((formW 8)[k]'(by omega), args[k]) (List.mem_iff_getElem.2 ⟨k, by simp; omega, by simp⟩)
        rw [List.getD_eq_getElem?_getD, List.getElem?_eq_getElem (by omega), Option.getD_some] at hb
        simp only at this
        rw [hb] at this
        cases this
      rw [e] at h
      exact h
    have good : argS s ((formW 8).getD k wAny) args[k] = true → ∀ j (_ : j < args.length), j < k + 1 → argS s ((formW 8).getD j wAny) args[j] = true := fun hb j hj hjk => by
      by_cases ej : j = k
      · subst ej; exact hb
      · exact ht j hj (by omega)
    have hka : k < args.length := by omega
    have hka' : (k : Int) < (args.length : Int) := by omega
    have hk3 : k = 0 ∨ k = 1 ∨ k = 2 := by omega
    rcases hk3 with rfl | rfl | rfl
    · skip
      simp [m11, hka, hka', m0]
      refine argFits_ok s _ _ ?_
      have hb0 : argS s ((formW 8).getD 0 wAny) args[0] = argS s wGen args[0] := rfl
      rw [hb0] at bad good
      clear hb0
      cases hb : argS s wGen args[0] with
      | false =>
        have hbad := bad hb
        simp
        refine no_ic (by simp) m0 mS 0 fun H' nx' hnx low' sol' => ?_
        have g1 := (low' 1 (by omega)).trans m1
        have g2 := (low' 2 (by omega)).trans m2
        simp [g1, g2]
        exact same _ _ _ (HSol.set (HSol.set sol' (by simp)) (by simp)) hbad
      | true =>
        simp
        exact ⟨0 + 1, by omega, ⟨by omega, good hb⟩, Wk.sub (by simp [show IntKind.i64.wrap 1 = 1 by kernel_rfl, show IntKind.i64.wrap 2 = 2 by kernel_rfl, show IntKind.i64.wrap 3 = 3 by kernel_rfl])⟩
    · skip
      simp [m11, hka, hka', m0]
      refine argFits_ok s _ _ ?_
      have hb0 : argS s ((formW 8).getD 1 wAny) args[1] = argS s wAny args[1] := rfl
      rw [hb0] at bad good
      clear hb0
      cases hb : argS s wAny args[1] with
      | false =>
        have hbad := bad hb
        simp
        refine no_ic (by simp) m0 mS 0 fun H' nx' hnx low' sol' => ?_
        have g1 := (low' 1 (by omega)).trans m1
        have g2 := (low' 2 (by omega)).trans m2
        simp [g1, g2]
        exact same _ _ _ (HSol.set (HSol.set sol' (by simp)) (by simp)) hbad
      | true =>
        simp
        exact ⟨1 + 1, by omega, ⟨by omega, good hb⟩, Wk.sub (by simp [show IntKind.i64.wrap 1 = 1 by kernel_rfl, show IntKind.i64.wrap 2 = 2 by kernel_rfl, show IntKind.i64.wrap 3 = 3 by kernel_rfl])⟩
    · exact absurd h3 (by omega)
  have ek : k = 2 := by omega
  subst ek
  have hab : argsB s (formB 8) args = true := by
    rw [args_same s (show 8 < 16 by omega), List.all_eq_true]
    intro x hx
    obtain ⟨i, hi, rfl⟩ := List.mem_iff_getElem.1 hx
    simp at hi
    have := ht i (by omega) (by omega)
    rw [List.getD_eq_getElem?_getD, List.getElem?_eq_getElem (by omega), Option.getD_some] at this
    simpa using this
  have e : callW s ((8 : Nat) : Int) args = callR s 8 args := callW_at (by omega) (by rw [← formW_len (show 8 < 16 by omega), hlW]; exact hl) hab
  rw [e] at h
  obtain ⟨a, b, rfl⟩ : ∃ a b, args = [a, b] := len_two hl
  have hfa := hf a (by simp)
  have hr := fits_ref hfa
  simp only [callR, valAt, List.getD_cons_zero, List.getD_cons_succ] at h
  have hab1 : namesB s a 5 = true := by
    simp [argsB, formB] at hab
    exact hab.1
  have a5 : a.kind = 5 := by obtain ⟨n, -, e, -⟩ := names_cell hab1; rw [e]
  obtain ⟨p1, p2⟩ := hr a5
  obtain ⟨n, hnl, rfl⟩ : ∃ (n : Nat) (_ : n < s.cells.length), a = ⟨5, n⟩ := ⟨a.n.toNat, by omega, by cases a; simp at a5 p1 ⊢; exact ⟨a5, by omega⟩⟩
  have hn' : (n : Int) < (s.cells.length : Int) := by omega
  have hvl := (cell_vals hq hnl).2.2
  have hat : cellAt s (n : Int) = s.cells[n] := at_nat hnl
  simp [m0, hnl, hn']
  refine ⟨.inl (by omega), fun _ => ?_⟩
  refine no_ic (cs := (eState s).map .d) (by simp) (by simp [Hp.set, m0]) ?_ _ fun H' nx' hnx low' sol' => ?_
  · skip
    repeat' (first | exact mS | exact sol' | exact dV_sol _ | exact (valBlk_new _).sol | exact (shpBlk_new _).sol | exact (txtBlk_new _).sol | exact (endBlk_new _).sol | refine hsolN ?_ | refine HSol.set ?_ ?_ | (simp; done))
  have g1 : H' 1 = some ⟨.c 29, 8, [[.d .emp, .d .emp, .d .emp, .d .emp, .d .emp, .d .emp, .d (eI 0), .d (eI 0)]]⟩ := (low' 1 (by omega)).trans (by simp [Hp.set, m1])
  have g2 : H' 2 = some ⟨.c 31, 2, [[.d (eI 0), .d (eI 0)]]⟩ := (low' 2 (by omega)).trans (by simp [Hp.set, m2])
  simp [g1, g2]
  exact same _ _ _ (HSol.set (HSol.set sol' (by simp)) (by simp)) h
theorem callInX (s : GState) (call : Int) (hc : call < 0 ∨ 16 ≤ call) (args : List GVal) {K : D → List Blk → Prop} (h : K (.tup [aD (eState (callW s call args).1), aD (eVal (callW s call args).2.1), dI (callW s call args).2.2]) []) :
    DPure Tryz.prog 8 [aD (eState s), dI call, dL true (args.map eVal)] K := by
  have e : callW s call args = (s, nilG, 0) := by unfold callW; rw [if_pos hc]
  rw [e] at h
  refine DPure.ofI ?_
  have same : ∀ (X : Hp) (v : GVal) (e : Int), HSol X → K (.tup [aD (eState s), aD (eVal v), dI e]) [] → HSol X ∧ ∃ d', DShw X (fun _ => True) (.tup [aD (eState s), aD (eVal v), dI e]) d' ∧ K d' [] := fun X v e hx hk => ⟨hx, .tup [aD (eState s), aD (eVal v), dI e], ⟨CsS.csShw (CsS.dat (by simp)), val_shw v, ⟨_, rfl, .d rfl⟩, trivial⟩, hk⟩
  refine fni_ok ciKs ciPl Tryz.func8 rfl (by kernel_rfl) rfl rfl rfl rfl (by kernel_rfl) ?_
  rw [vc_seq, vc_region]
  generalize hK1 : onlyK _ _ = K1
  simp
  rw [← hK1]
  clear hK1
  rw [onlyK_mk, thenK_normal, vc_seq, vc_region]
  generalize hK1 : onlyK _ _ = K1
  iterate 17 (rw [vcL_cons]; simp [-vcL_cons])
  rw [vcL_cons]
  simp
  rw [← hK1]
  clear hK1
  rw [onlyK_mk, thenK_normal]
  generalize hM : Hp.set _ _ _ = M
  have m0 : M 0 = some ⟨.c 29, 8, [(eState s).map .d]⟩ := by rw [← hM]; rfl
  have m1 : M 1 = some ⟨.c 29, 8, [[.d .emp, .d .emp, .d .emp, .d .emp, .d .emp, .d .emp, .d (eI 0), .d (eI 0)]]⟩ := by rw [← hM]; rfl
  have m2 : M 2 = some ⟨.c 31, 2, [[.d (eI 0), .d (eI 0)]]⟩ := by rw [← hM]; rfl
  have m3 : M 3 = some ⟨.c 9, 1, [[.d (eS wAny)]]⟩ := by rw [← hM]; rfl
  have m4 : M 4 = some ⟨.c 9, 1, [[.d (eS wList)], [.d (eS wAny)]]⟩ := by rw [← hM]; rfl
  have m5 : M 5 = some ⟨.c 9, 1, [[.d (eS wList)]]⟩ := by rw [← hM]; rfl
  have m6 : M 6 = some ⟨.c 9, 1, [[.d (eS wObj)]]⟩ := by rw [← hM]; rfl
  have m7 : M 7 = some ⟨.c 9, 1, [[.d (eS wAny)]]⟩ := by rw [← hM]; rfl
  have m8 : M 8 = some ⟨.c 9, 1, [[.d (eS wAny)]]⟩ := by rw [← hM]; rfl
  have m9 : M 9 = some ⟨.c 9, 1, [[.d (eS wInt)]]⟩ := by rw [← hM]; rfl
  have m10 : M 10 = some ⟨.c 9, 1, [[.d (eS wFlo)]]⟩ := by rw [← hM]; rfl
  have m11 : M 11 = some ⟨.c 9, 1, [[.d (eS wGen)], [.d (eS wAny)]]⟩ := by rw [← hM]; rfl
  have m12 : M 12 = some ⟨.c 9, 1, [[.d (eS wGen)]]⟩ := by rw [← hM]; rfl
  have m13 : M 13 = some ⟨.c 9, 1, [[.d (eS wWeak)], [.d (eS wRef)], [.d (eS wAny)]]⟩ := by rw [← hM]; rfl
  have m14 : M 14 = some ⟨.c 9, 1, [[.d (eS wWeak)], [.d (eS wRef)]]⟩ := by rw [← hM]; rfl
  have m15 : M 15 = some ⟨.c 9, 1, [[.d (eS wRef)], [.d (eS wFun)]]⟩ := by rw [← hM]; rfl
  have m16 : M 16 = some ⟨.c 24, 1, [[C.own 3 1 1], [C.own 4 1 2], [C.own 5 1 1], [C.own 6 1 1], [C.own 7 1 1], [C.own 8 1 1], [C.own 9 1 1], [C.own 10 1 1], [C.own 11 1 2], [C.own 12 1 1], [C.d Dt.emp], [C.d Dt.emp], [C.own 13 1 3], [C.own 14 1 2], [C.own 15 1 2], [C.d Dt.emp]]⟩ := by rw [← hM]; rfl
  have mS : HSol M := by
    rw [← hM]
    repeat' (first | exact HSol.nil | exact HSol.zero | refine HSol.set ?_ ?_ | (simp; done))
  clear hM
  simp
  refine between_ok _ _ _ ?_
  have hb1 : btw call 0 15 = false := by
    rw [← Bool.not_eq_true]; intro e; simp [btw] at e; omega
  simp [hb1]
  refine no_ic (cs := (eState s).map .d) (by simp) (by simp [Hp.set, m0]) ?_ _ fun H' nx' hnx low' sol' => ?_
  · skip
    repeat' (first | exact mS | exact sol' | exact dV_sol _ | exact (valBlk_new _).sol | exact (shpBlk_new _).sol | exact (txtBlk_new _).sol | exact (endBlk_new _).sol | refine hsolN ?_ | refine HSol.set ?_ ?_ | (simp; done))
  have g1 : H' 1 = some ⟨.c 29, 8, [[.d .emp, .d .emp, .d .emp, .d .emp, .d .emp, .d .emp, .d (eI 0), .d (eI 0)]]⟩ := (low' 1 (by omega)).trans (by simp [Hp.set, m1])
  have g2 : H' 2 = some ⟨.c 31, 2, [[.d (eI 0), .d (eI 0)]]⟩ := (low' 2 (by omega)).trans (by simp [Hp.set, m2])
  simp [g1, g2]
  exact same _ _ _ (HSol.set (HSol.set sol' (by simp)) (by simp)) h
end Go.Proofs.YtbphdcffpobcbaaGreatDoor
