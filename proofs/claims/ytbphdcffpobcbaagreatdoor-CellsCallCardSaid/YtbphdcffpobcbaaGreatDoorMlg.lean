/- Several texts in one. -/
import Derived.Test.YtbphdcffpobcbaaGreatDoorMld
set_option linter.unusedSimpArgs false
set_option linter.unusedVariables false
set_option maxRecDepth 100000
set_option maxHeartbeats 16000000
namespace Go.Proofs.YtbphdcffpobcbaaGreatDoor
open Go.RowKit Go
structure KzS2 where
  k : Nat
  H : Hp
  nx : Nat
  q : Nat
structure KzI (M : Hp) (n0 : Nat) (Q : List Int) (x : KzS2) : Prop where
  k : x.k ≤ Q.length
  q : n0 ≤ x.q ∧ x.q < x.nx
  blk : x.H x.q = some (valBlk ((Q.take x.k).map fun n => ⟨4, n⟩))
  low : ∀ i, i < n0 → x.H i = M i
  sol : HSol x.H
theorem callIn3 (s : GState) (hq : cellsQ wordsT s = 0) (args : List GVal) (hf : ∀ v ∈ args, fitsB s v = true) {K : D → List Blk → Prop} (h : K (.tup [aD (eState (callW s (3 : Nat) args).1), aD (eVal (callW s (3 : Nat) args).2.1), dI (callW s (3 : Nat) args).2.2]) []) :
    DPure Tryz.prog 8 [aD (eState s), dI (3 : Nat), dL true (args.map eVal)] K := by
  refine DPure.ofI ?_
  have same : ∀ (X : Hp) (v : GVal) (e : Int), HSol X → K (.tup [aD (eState s), aD (eVal v), dI e]) [] → HSol X ∧ ∃ d', DShw X (fun _ => True) (.tup [aD (eState s), aD (eVal v), dI e]) d' ∧ K d' [] := fun X v e hx hk => ⟨hx, .tup [aD (eState s), aD (eVal v), dI e], ⟨CsS.csShw (CsS.dat (by simp)), val_shw v, ⟨_, rfl, .d rfl⟩, trivial⟩, hk⟩
  refine fni_ok ciKs ciPl Tryz.func8 rfl (by kernel_rfl) rfl rfl rfl rfl (by kernel_rfl) ?_
  rw [vc_seq, vc_region]
  generalize hK1 : onlyK _ _ = K1
  simp
  rw [← hK1]
  clear hK1
  rw [onlyK_mk, thenK_normal, vc_seq, vc_region]
  generalize hK1 : onlyK _ _ = K1
  iterate 17 (rw [vcL_cons]; simp [-vcL_cons])
  rw [vcL_cons]
  simp
  rw [← hK1]
  clear hK1
  rw [onlyK_mk, thenK_normal]
  generalize hM : Hp.set _ _ _ = M
  have m0 : M 0 = some ⟨.c 29, 8, [(eState s).map .d]⟩ := by rw [← hM]; rfl
  have m1 : M 1 = some ⟨.c 29, 8, [[.d .emp, .d .emp, .d .emp, .d .emp, .d .emp, .d .emp, .d (eI 0), .d (eI 0)]]⟩ := by rw [← hM]; rfl
  have m2 : M 2 = some ⟨.c 31, 2, [[.d (eI 0), .d (eI 0)]]⟩ := by rw [← hM]; rfl
  have m3 : M 3 = some ⟨.c 9, 1, [[.d (eS wAny)]]⟩ := by rw [← hM]; rfl
  have m4 : M 4 = some ⟨.c 9, 1, [[.d (eS wList)], [.d (eS wAny)]]⟩ := by rw [← hM]; rfl
  have m5 : M 5 = some ⟨.c 9, 1, [[.d (eS wList)]]⟩ := by rw [← hM]; rfl
  have m6 : M 6 = some ⟨.c 9, 1, [[.d (eS wObj)]]⟩ := by rw [← hM]; rfl
  have m7 : M 7 = some ⟨.c 9, 1, [[.d (eS wAny)]]⟩ := by rw [← hM]; rfl
  have m8 : M 8 = some ⟨.c 9, 1, [[.d (eS wAny)]]⟩ := by rw [← hM]; rfl
  have m9 : M 9 = some ⟨.c 9, 1, [[.d (eS wInt)]]⟩ := by rw [← hM]; rfl
  have m10 : M 10 = some ⟨.c 9, 1, [[.d (eS wFlo)]]⟩ := by rw [← hM]; rfl
  have m11 : M 11 = some ⟨.c 9, 1, [[.d (eS wGen)], [.d (eS wAny)]]⟩ := by rw [← hM]; rfl
  have m12 : M 12 = some ⟨.c 9, 1, [[.d (eS wGen)]]⟩ := by rw [← hM]; rfl
  have m13 : M 13 = some ⟨.c 9, 1, [[.d (eS wWeak)], [.d (eS wRef)], [.d (eS wAny)]]⟩ := by rw [← hM]; rfl
  have m14 : M 14 = some ⟨.c 9, 1, [[.d (eS wWeak)], [.d (eS wRef)]]⟩ := by rw [← hM]; rfl
  have m15 : M 15 = some ⟨.c 9, 1, [[.d (eS wRef)], [.d (eS wFun)]]⟩ := by rw [← hM]; rfl
  have m16 : M 16 = some ⟨.c 24, 1, [[C.own 3 1 1], [C.own 4 1 2], [C.own 5 1 1], [C.own 6 1 1], [C.own 7 1 1], [C.own 8 1 1], [C.own 9 1 1], [C.own 10 1 1], [C.own 11 1 2], [C.own 12 1 1], [C.d Dt.emp], [C.d Dt.emp], [C.own 13 1 3], [C.own 14 1 2], [C.own 15 1 2], [C.d Dt.emp]]⟩ := by rw [← hM]; rfl
  have mS : HSol M := by
    rw [← hM]
    repeat' (first | exact HSol.nil | exact HSol.zero | refine HSol.set ?_ ?_ | (simp; done))
  clear hM
  simp
  refine between_ok _ _ _ ?_
  have hb1 : btw ((3 : Nat) : Int) 0 15 = true := rfl
  have hlW : (formW 3).length = 1 := rfl
  by_cases hl : args.length = 1
  case neg =>
    have e : callW s ((3 : Nat) : Int) args = (s, nilG, 7) := by
      unfold callW
      rw [if_neg (by decide), if_pos (by rw [Int.toNat_natCast, ← formW_len (show 3 < 16 by omega), hlW]; exact hl)]
    rw [e] at h
    have hl' : ¬ (args.length : Int) = 1 := by omega
    simp [hb1, m16, hl, hl']
    intro _
    refine no_ic (by simp) m0 mS 7 fun H' nx' hnx low' sol' => ?_
    have g1 := (low' 1 (by omega)).trans m1
    have g2 := (low' 2 (by omega)).trans m2
    simp [g1, g2]
    exact same _ _ _ (HSol.set (HSol.set sol' (by simp)) (by simp)) h
  have hl' : (args.length : Int) = 1 := by omega
  simp [hb1, m16, hl, hl']
  refine loop_ok (ks := ciKs) (pl := ciPl) (n0 := 422) (fun x : {k : Nat // k ≤ 1 ∧ ∀ j (_ : j < args.length), j < k → argS s ((formW 3).getD j wAny) args[j] = true} => [(70, dI x.1)]) (fun x => 1 - x.1) ⟨0, by omega, fun j _ h => absurd h (Nat.not_lt_zero _)⟩ rfl (by kernel_rfl) (Wk.sub (by simp)) ?_
  rintro ⟨k, hk, ht⟩
  by_cases h3 : k < 1
  case pos =>
    have bad : argS s ((formW 3).getD k wAny) args[k] = false → K (.tup [aD (eState s), aD (eVal nilG), dI 0]) [] := fun hb => by
      have e : callW s ((3 : Nat) : Int) args = (s, nilG, 0) := by
        unfold callW
        rw [if_neg (by decide), if_neg (by rw [Int.toNat_natCast, ← formW_len (show 3 < 16 by omega), hlW]; omega), if_pos ?_]
        rw [Int.toNat_natCast, Bool.eq_false_iff, args_same s (show 3 < 16 by omega)]
        intro hall
        rw [List.all_eq_true] at hall
        have := hall ((formW 3)[k]'(by omega), args[k]) (List.mem_iff_getElem.2 ⟨k, by simp; omega, by simp⟩)
        rw [List.getD_eq_getElem?_getD, List.getElem?_eq_getElem (by omega), Option.getD_some] at hb
        simp only at this
        rw [hb] at this
        cases this
      rw [e] at h
      exact h
    have good : argS s ((formW 3).getD k wAny) args[k] = true → ∀ j (_ : j < args.length), j < k + 1 → argS s ((formW 3).getD j wAny) args[j] = true := fun hb j hj hjk => by
      by_cases ej : j = k
      · subst ej; exact hb
      · exact ht j hj (by omega)
    have hka : k < args.length := by omega
    have hka' : (k : Int) < (args.length : Int) := by omega
    have hk3 : k = 0 ∨ k = 1 ∨ k = 2 := by omega
    rcases hk3 with rfl | rfl | rfl
    · skip
      simp [m6, hka, hka', m0]
      refine argFits_ok s _ _ ?_
      have hb0 : argS s ((formW 3).getD 0 wAny) args[0] = argS s wObj args[0] := rfl
      rw [hb0] at bad good
      clear hb0
      cases hb : argS s wObj args[0] with
      | false =>
        have hbad := bad hb
        simp
        refine no_ic (by simp) m0 mS 0 fun H' nx' hnx low' sol' => ?_
        have g1 := (low' 1 (by omega)).trans m1
        have g2 := (low' 2 (by omega)).trans m2
        simp [g1, g2]
        exact same _ _ _ (HSol.set (HSol.set sol' (by simp)) (by simp)) hbad
      | true =>
        simp
        exact ⟨0 + 1, by omega, ⟨by omega, good hb⟩, Wk.sub (by simp [show IntKind.i64.wrap 1 = 1 by kernel_rfl, show IntKind.i64.wrap 2 = 2 by kernel_rfl, show IntKind.i64.wrap 3 = 3 by kernel_rfl])⟩
    · exact absurd h3 (by omega)
    · exact absurd h3 (by omega)
  have ek : k = 1 := by omega
  subst ek
  have hab : argsB s (formB 3) args = true := by
    rw [args_same s (show 3 < 16 by omega), List.all_eq_true]
    intro x hx
    obtain ⟨i, hi, rfl⟩ := List.mem_iff_getElem.1 hx
    simp at hi
    have := ht i (by omega) (by omega)
    rw [List.getD_eq_getElem?_getD, List.getElem?_eq_getElem (by omega), Option.getD_some] at this
    simpa using this
  have e : callW s ((3 : Nat) : Int) args = callR s 3 args := callW_at (by omega) (by rw [← formW_len (show 3 < 16 by omega), hlW]; exact hl) hab
  rw [e] at h
  obtain ⟨a, rfl⟩ : ∃ a, args = [a] := List.length_eq_one_iff.1 hl
  have hfa := hf a (by simp)
  have hr := fits_ref hfa
  simp only [callR, valAt, List.getD_cons_zero] at h
  have hab1 : namesB s a 1 = true := by
    simp [argsB, formB] at hab
    exact hab
  have a5 : a.kind = 5 := by obtain ⟨n, -, e, -⟩ := names_cell hab1; rw [e]
  obtain ⟨p1, p2⟩ := hr a5
  obtain ⟨n, hnl, rfl⟩ : ∃ (n : Nat) (_ : n < s.cells.length), a = ⟨5, n⟩ := ⟨a.n.toNat, by omega, by cases a; simp at a5 p1 ⊢; exact ⟨a5, by omega⟩⟩
  have hn' : (n : Int) < (s.cells.length : Int) := by omega
  have hvl := (cell_vals hq hnl).2.2
  have hat : cellAt s (n : Int) = s.cells[n] := at_nat hnl
  obtain ⟨n', hn2, e1, -, hk⟩ := names_cell hab1
  obtain rfl : n = n' := by simp at e1; omega
  clear e1
  obtain ⟨o1, o2, o3⟩ := obj_len hq hnl hk
  unfold keysW at h
  simp only [hat] at h
  obtain ⟨q, hqn⟩ : ∃ q : Nat, s.cells[n].num = q := ⟨s.cells[n].num.toNat, by omega⟩
  obtain ⟨-, hfl, -⟩ := cellsQ_iff.1 hq
  obtain ⟨g1, g2⟩ := faultP_ok hfl
  rw [hqn] at o2 h o3
  rw [namesQ_in hfl (by omega)] at h o3
  have hcl : s.cells.length ≤ 300 := by
    have := (cellsQ_iff.1 hq).1
    simp only [heapLarge, Bool.or_eq_false_iff, decide_eq_false_iff_not] at this
    omega
  simp [m0, hnl, hn', hqn]
  refine ⟨.inl (by omega), fun _ => ?_⟩
  refine shapeNames_ok true s.shapes (by omega) q (g2.2.2.ahead (by omega)) (by omega) ?_
  generalize namesP s.shapes q = Q at *
  simp
  intro _
  generalize hX : Hp.set _ 20 _ = M1
  have iAt : M1 20 = some ⟨.c 3, 1, iRows Q⟩ := by rw [← hX]; exact Hp.set_same _ _ _
  have iSol : HSol M1 := by
    rw [← hX]
    have es1 : ∀ e ∈ iRows Q, ∀ c ∈ e, C.solidC c = true := by simp [iRows]
    repeat' (first | exact mS | exact es1 | exact dV_sol _ | refine HSol.set ?_ ?_ | (simp; done))
  have i0 : M1 0 = some ⟨.c 29, 8, [(eState s).map .d]⟩ := by rw [← hX]; simp [Hp.set, m0]
  have i1 : M1 1 = some ⟨.c 29, 8, [[.d .emp, .d .emp, .d .emp, .d .emp, .d .emp, .d .emp, .d (eI 0), .d (eI 0)]]⟩ := by rw [← hX]; simp [Hp.set, m1]
  have i2 : M1 2 = some ⟨.c 31, 2, [[.d (eI 0), .d (eI 0)]]⟩ := by rw [← hX]; simp [Hp.set, m2]
  clear hX
  refine loopH_ok (ks := ciKs) (pl := ciPl) (n0 := 422) (α := {x : KzS2 // KzI M1 21 Q x}) (fun x => [(18, .one (.own x.1.q 2 x.1.k)), (206, dI x.1.k)]) (fun _ x => x.1.H) (fun x => x.1.nx) (fun x => Q.length - x.1.k)
    ⟨⟨0, M1.set 21 (some ⟨.c 31, 2, []⟩), 22, 21⟩, ⟨Nat.zero_le _, ⟨by simp only; omega, by simp only; omega⟩, (by simp only; rw [Hp.set_same]; simp [valBlk]), fun i hi => Hp.set_ne _ _ (by omega), iSol.set (by simp)⟩⟩ rfl (by kernel_rfl) ((Wk.emp (t := 18) 31 2 rfl).trans (Wk.sub (by simp))) ?_
  rintro ⟨⟨k, H2, nx2, q2⟩, ⟨hk2, hqb, hblk, hlow, hsol⟩⟩
  simp only at hk2 hqb hblk hlow hsol
  have j1 : H2 20 = some ⟨.c 3, 1, iRows Q⟩ := by rw [hlow _ (by omega)]; exact iAt
  have j0 : H2 1 = some ⟨.c 29, 8, [[.d .emp, .d .emp, .d .emp, .d .emp, .d .emp, .d .emp, .d (eI 0), .d (eI 0)]]⟩ := by rw [hlow _ (by omega)]; exact i1
  have j2 : H2 2 = some ⟨.c 31, 2, [[.d (eI 0), .d (eI 0)]]⟩ := by rw [hlow _ (by omega)]; exact i2
  by_cases h1 : k < Q.length
  · have h1' : (k : Int) < (Q.length : Int) := by omega
    have g1 : (iRows Q)[k]? = some [.d (eI Q[k])] := by simp [iRows, h1]
    obtain ⟨g2, g3⟩ := List.getElem?_eq_some_iff.1 g1
    have d1 : ¬ 20 = nx2 := by omega
    have d2 : ¬ q2 = nx2 := by omega
    have d3 : ¬ nx2 = q2 := by omega
    obtain ⟨L, hLe⟩ : ∃ L, L = (Q.take k).map fun n => (⟨4, n⟩ : GVal) := ⟨_, rfl⟩
    have hLl : L.length = k := by rw [hLe]; simp; omega
    have hb2 : H2 q2 = some (valBlk L) := by rw [hLe]; exact hblk
    have hnext : (Q.take (k + 1)).map (fun n => (⟨4, n⟩ : GVal)) = L ++ [⟨4, Q[k]⟩] := by rw [List.take_succ_eq_append_getElem h1, List.map_append, ← hLe]; rfl
    obtain ⟨w, hwe⟩ : ∃ w, w = Q[k] := ⟨_, rfl⟩
    rw [← hwe] at g3 hnext
    clear hLe
    obtain rfl : k = L.length := hLl.symm
    rw [valBlk] at hb2
    simp [h1, h1', j1, g1, g2, g3, hb2, d1, d2, d3, ← hwe]
    have f1 : H2.set nx2 (some ⟨.c 31, 2, [[.d (.lit (.int .i64 4)), .d (eI w)]]⟩) q2 = some ⟨.c 31, 2, L.map fun v => [.d (eI v.kind), .d (eI v.n)]⟩ := by rw [Hp.set_ne _ _ d2]; exact hb2
    refine ⟨fun m b hm hb => ?_, .inl (by omega), ⟨L.length + 1, ((H2.set nx2 (some ⟨.c 31, 2, [[.d (.lit (.int .i64 4)), .d (eI w)]]⟩)).set q2 none).set (nx2 + 1) (some ⟨.c 31, 2, (L.map fun v => [.d (eI v.kind), .d (eI v.n)]) ++ [[.d (.lit (.int .i64 4)), .d (eI w)]]⟩), nx2 + 1 + 1, nx2 + 1⟩, by simp only; omega, ⟨by simp only; omega, ⟨by simp only; omega, by simp only; omega⟩, ?_, fun i hi => ?_, ?_⟩, Wk.sub (by simp [wrap_add (show L.length < 9223372036854775807 by omega)])⟩
    · subst hm
      rw [if_neg d2, hb2] at hb
      simp only [Option.some.injEq] at hb
      subst hb
      exact ⟨rfl, rfl⟩
    · simp only
      rw [Hp.set_same, hnext]
      simp [valBlk]
    · simp only
      rw [Hp.set_ne _ _ (by omega), Hp.set_ne _ _ (by omega), Hp.set_ne _ _ (by omega)]; exact hlow i hi
    · simp only
      refine HSol.set (hsolN (HSol.set hsol (by simp))) ?_
      intro e he c hc
      rcases List.mem_append.1 he with he | he
      · obtain ⟨u, -, rfl⟩ := List.mem_map.1 he
        simp at hc; rcases hc with rfl | rfl <;> rfl
      · rw [List.mem_singleton] at he; subst he; simp at hc; rcases hc with rfl | rfl <;> rfl
  · obtain rfl : k = Q.length := by omega
    rw [List.take_length] at hblk
    have j00 : H2 0 = some ⟨.c 29, 8, [(eState s).map .d]⟩ := by rw [hlow _ (by omega)]; exact i0
    simp [j00]
    unfold makeW at h
    refine cellMade_ic s hcl 2 0 (.own q2 2 Q.length) rfl hsol (fun hb H' nx' hnx low' sol' => ?_) (fun hb H' nC nx' hn1 hn2 low' sol' row' => ?_)
    · rw [if_pos hb] at h
      have g1 := (low' 1 (by omega)).trans j0
      have g2 := (low' 2 (by omega)).trans j2
      simp [g1, g2]
      exact same _ _ _ (HSol.set (HSol.set sol' (by simp)) (by simp)) h
    · rw [if_neg hb] at h
      have g1 := (low' 1 (by omega)).trans j0
      have g2 := (low' 2 (by omega)).trans j2
      simp [g1, g2]
      refine and_ofP (HSol.set (HSol.set sol' (by simp)) (by simp)) fun _ => ⟨.tup [aD (eState (s.addC ⟨2, 0, Q.map fun n => ⟨4, n⟩, []⟩)), aD (eVal ⟨5, s.cells.length⟩), dI (-1)], ⟨stateC_shw (t := s.addC ⟨2, 0, Q.map fun n => ⟨4, n⟩, []⟩) (s := s) (cellsAdd_shw ⟨2, 0, Q.map fun n => ⟨4, n⟩, []⟩ (by rw [Hp.set_ne _ _ (by omega), Hp.set_ne _ _ (by omega)]; exact row') ?_ .emp) (.d rfl) ⟨rfl, rfl, rfl, rfl, rfl, rfl⟩, val_shw _, ⟨_, rfl, .d rfl⟩, trivial⟩, h⟩
      rw [show Q.length = (Q.map fun n => (⟨4, n⟩ : GVal)).length by simp]
      exact Shw.vals trivial (by rw [Hp.set_ne _ _ (by omega), Hp.set_ne _ _ (by omega), low' _ (by omega)]; exact hblk)
theorem Shw.txts {H : Hp} {N : Nat → Prop} {n : Nat} {l : List ByteArray} (hn : N n) (hx : H n = some (txtBlk l)) : Shw H N (.own n 1 l.length) (.sl true (l.map eStr)) := Shw.row hn hx rfl (by simp) (by simp [txtBlk, List.take_of_length_le]) (fun e he => by obtain ⟨x, -, rfl⟩ := List.mem_map.1 he; rfl) (fun e he d hd => by obtain ⟨x, -, rfl⟩ := List.mem_map.1 he; simp [eStr] at hd; subst hd; rfl)
theorem stateA_shw {H : Hp} {c1 c2 c3 c4 c5 c6 : C} {t : GState} (h1 : Shw H (fun _ => True) c1 (.sl true (t.cells.map eCell))) (h2 : Shw H (fun _ => True) c2 (.sl true (t.shapes.map eShape))) (h3 : Shw H (fun _ => True) c3 (.sl true (t.texts.map eStr))) (h4 : Shw H (fun _ => True) c4 (.sl true (t.threads.map eThread))) (h5 : Shw H (fun _ => True) c5 (.sl true (t.ends.map eEnd))) (h6 : Shw H (fun _ => True) c6 (.sl true (t.said.map eVal))) :
    DShw H (fun _ => True) (.agg [c1, c2, c3, c4, c5, c6, .d (eI t.asked), .d (eI t.steps)]) (aD (eState t)) :=
  ⟨⟨_, rfl, h1⟩, ⟨_, rfl, h2⟩, ⟨_, rfl, h3⟩, ⟨_, rfl, h4⟩, ⟨_, rfl, h5⟩, ⟨_, rfl, h6⟩, ⟨_, rfl, .d rfl⟩, ⟨_, rfl, .d rfl⟩, trivial⟩
theorem callIn4 (s : GState) (hq : cellsQ wordsT s = 0) (args : List GVal) (hf : ∀ v ∈ args, fitsB s v = true) {K : D → List Blk → Prop} (h : K (.tup [aD (eState (callW s (4 : Nat) args).1), aD (eVal (callW s (4 : Nat) args).2.1), dI (callW s (4 : Nat) args).2.2]) []) :
    DPure Tryz.prog 8 [aD (eState s), dI (4 : Nat), dL true (args.map eVal)] K := by
  refine DPure.ofI ?_
  have same : ∀ (X : Hp) (v : GVal) (e : Int), HSol X → K (.tup [aD (eState s), aD (eVal v), dI e]) [] → HSol X ∧ ∃ d', DShw X (fun _ => True) (.tup [aD (eState s), aD (eVal v), dI e]) d' ∧ K d' [] := fun X v e hx hk => ⟨hx, .tup [aD (eState s), aD (eVal v), dI e], ⟨CsS.csShw (CsS.dat (by simp)), val_shw v, ⟨_, rfl, .d rfl⟩, trivial⟩, hk⟩
  refine fni_ok ciKs ciPl Tryz.func8 rfl (by kernel_rfl) rfl rfl rfl rfl (by kernel_rfl) ?_
  rw [vc_seq, vc_region]
  generalize hK1 : onlyK _ _ = K1
  simp
  rw [← hK1]
  clear hK1
  rw [onlyK_mk, thenK_normal, vc_seq, vc_region]
  generalize hK1 : onlyK _ _ = K1
  iterate 17 (rw [vcL_cons]; simp [-vcL_cons])
  rw [vcL_cons]
  simp
  rw [← hK1]
  clear hK1
  rw [onlyK_mk, thenK_normal]
  generalize hM : Hp.set _ _ _ = M
  have m0 : M 0 = some ⟨.c 29, 8, [(eState s).map .d]⟩ := by rw [← hM]; rfl
  have m1 : M 1 = some ⟨.c 29, 8, [[.d .emp, .d .emp, .d .emp, .d .emp, .d .emp, .d .emp, .d (eI 0), .d (eI 0)]]⟩ := by rw [← hM]; rfl
  have m2 : M 2 = some ⟨.c 31, 2, [[.d (eI 0), .d (eI 0)]]⟩ := by rw [← hM]; rfl
  have m3 : M 3 = some ⟨.c 9, 1, [[.d (eS wAny)]]⟩ := by rw [← hM]; rfl
  have m4 : M 4 = some ⟨.c 9, 1, [[.d (eS wList)], [.d (eS wAny)]]⟩ := by rw [← hM]; rfl
  have m5 : M 5 = some ⟨.c 9, 1, [[.d (eS wList)]]⟩ := by rw [← hM]; rfl
  have m6 : M 6 = some ⟨.c 9, 1, [[.d (eS wObj)]]⟩ := by rw [← hM]; rfl
  have m7 : M 7 = some ⟨.c 9, 1, [[.d (eS wAny)]]⟩ := by rw [← hM]; rfl
  have m8 : M 8 = some ⟨.c 9, 1, [[.d (eS wAny)]]⟩ := by rw [← hM]; rfl
  have m9 : M 9 = some ⟨.c 9, 1, [[.d (eS wInt)]]⟩ := by rw [← hM]; rfl
  have m10 : M 10 = some ⟨.c 9, 1, [[.d (eS wFlo)]]⟩ := by rw [← hM]; rfl
  have m11 : M 11 = some ⟨.c 9, 1, [[.d (eS wGen)], [.d (eS wAny)]]⟩ := by rw [← hM]; rfl
  have m12 : M 12 = some ⟨.c 9, 1, [[.d (eS wGen)]]⟩ := by rw [← hM]; rfl
  have m13 : M 13 = some ⟨.c 9, 1, [[.d (eS wWeak)], [.d (eS wRef)], [.d (eS wAny)]]⟩ := by rw [← hM]; rfl
  have m14 : M 14 = some ⟨.c 9, 1, [[.d (eS wWeak)], [.d (eS wRef)]]⟩ := by rw [← hM]; rfl
  have m15 : M 15 = some ⟨.c 9, 1, [[.d (eS wRef)], [.d (eS wFun)]]⟩ := by rw [← hM]; rfl
  have m16 : M 16 = some ⟨.c 24, 1, [[C.own 3 1 1], [C.own 4 1 2], [C.own 5 1 1], [C.own 6 1 1], [C.own 7 1 1], [C.own 8 1 1], [C.own 9 1 1], [C.own 10 1 1], [C.own 11 1 2], [C.own 12 1 1], [C.d Dt.emp], [C.d Dt.emp], [C.own 13 1 3], [C.own 14 1 2], [C.own 15 1 2], [C.d Dt.emp]]⟩ := by rw [← hM]; rfl
  have mS : HSol M := by
    rw [← hM]
    repeat' (first | exact HSol.nil | exact HSol.zero | refine HSol.set ?_ ?_ | (simp; done))
  clear hM
  simp
  refine between_ok _ _ _ ?_
  have hb1 : btw ((4 : Nat) : Int) 0 15 = true := rfl
  have hlW : (formW 4).length = 1 := rfl
  by_cases hl : args.length = 1
  case neg =>
    have e : callW s ((4 : Nat) : Int) args = (s, nilG, 7) := by
      unfold callW
      rw [if_neg (by decide), if_pos (by rw [Int.toNat_natCast, ← formW_len (show 4 < 16 by omega), hlW]; exact hl)]
    rw [e] at h
    have hl' : ¬ (args.length : Int) = 1 := by omega
    simp [hb1, m16, hl, hl']
    intro _
    refine no_ic (by simp) m0 mS 7 fun H' nx' hnx low' sol' => ?_
    have g1 := (low' 1 (by omega)).trans m1
    have g2 := (low' 2 (by omega)).trans m2
    simp [g1, g2]
    exact same _ _ _ (HSol.set (HSol.set sol' (by simp)) (by simp)) h
  have hl' : (args.length : Int) = 1 := by omega
  simp [hb1, m16, hl, hl']
  refine loop_ok (ks := ciKs) (pl := ciPl) (n0 := 422) (fun x : {k : Nat // k ≤ 1 ∧ ∀ j (_ : j < args.length), j < k → argS s ((formW 4).getD j wAny) args[j] = true} => [(70, dI x.1)]) (fun x => 1 - x.1) ⟨0, by omega, fun j _ h => absurd h (Nat.not_lt_zero _)⟩ rfl (by kernel_rfl) (Wk.sub (by simp)) ?_
  rintro ⟨k, hk, ht⟩
  by_cases h3 : k < 1
  case pos =>
    have bad : argS s ((formW 4).getD k wAny) args[k] = false → K (.tup [aD (eState s), aD (eVal nilG), dI 0]) [] := fun hb => by
      have e : callW s ((4 : Nat) : Int) args = (s, nilG, 0) := by
        unfold callW
        rw [if_neg (by decide), if_neg (by rw [Int.toNat_natCast, ← formW_len (show 4 < 16 by omega), hlW]; omega), if_pos ?_]
        rw [Int.toNat_natCast, Bool.eq_false_iff, args_same s (show 4 < 16 by omega)]
        intro hall
        rw [List.all_eq_true] at hall
        have := hall ((formW 4)[k]'(by omega), args[k]) (List.mem_iff_getElem.2 ⟨k, by simp; omega, by simp⟩)
        rw [List.getD_eq_getElem?_getD, List.getElem?_eq_getElem (by omega), Option.getD_some] at hb
        simp only at this
        rw [hb] at this
        cases this
      rw [e] at h
      exact h
    have good : argS s ((formW 4).getD k wAny) args[k] = true → ∀ j (_ : j < args.length), j < k + 1 → argS s ((formW 4).getD j wAny) args[j] = true := fun hb j hj hjk => by
      by_cases ej : j = k
      · subst ej; exact hb
      · exact ht j hj (by omega)
    have hka : k < args.length := by omega
    have hka' : (k : Int) < (args.length : Int) := by omega
    have hk3 : k = 0 ∨ k = 1 ∨ k = 2 := by omega
    rcases hk3 with rfl | rfl | rfl
    · skip
      simp [m7, hka, hka', m0]
      refine argFits_ok s _ _ ?_
      have hb0 : argS s ((formW 4).getD 0 wAny) args[0] = argS s wAny args[0] := rfl
      rw [hb0] at bad good
      clear hb0
      cases hb : argS s wAny args[0] with
      | false =>
        have hbad := bad hb
        simp
        refine no_ic (by simp) m0 mS 0 fun H' nx' hnx low' sol' => ?_
        have g1 := (low' 1 (by omega)).trans m1
        have g2 := (low' 2 (by omega)).trans m2
        simp [g1, g2]
        exact same _ _ _ (HSol.set (HSol.set sol' (by simp)) (by simp)) hbad
      | true =>
        simp
        exact ⟨0 + 1, by omega, ⟨by omega, good hb⟩, Wk.sub (by simp [show IntKind.i64.wrap 1 = 1 by kernel_rfl, show IntKind.i64.wrap 2 = 2 by kernel_rfl, show IntKind.i64.wrap 3 = 3 by kernel_rfl])⟩
    · exact absurd h3 (by omega)
    · exact absurd h3 (by omega)
  have ek : k = 1 := by omega
  subst ek
  have hab : argsB s (formB 4) args = true := by
    rw [args_same s (show 4 < 16 by omega), List.all_eq_true]
    intro x hx
    obtain ⟨i, hi, rfl⟩ := List.mem_iff_getElem.1 hx
    simp at hi
    have := ht i (by omega) (by omega)
    rw [List.getD_eq_getElem?_getD, List.getElem?_eq_getElem (by omega), Option.getD_some] at this
    simpa using this
  have e : callW s ((4 : Nat) : Int) args = callR s 4 args := callW_at (by omega) (by rw [← formW_len (show 4 < 16 by omega), hlW]; exact hl) hab
  rw [e] at h
  obtain ⟨a, rfl⟩ : ∃ a, args = [a] := List.length_eq_one_iff.1 hl
  have hfa := hf a (by simp)
  have hr := fits_ref hfa
  simp only [callR, valAt, List.getD_cons_zero] at h
  have htl : s.texts.length ≤ 300 := by
    have := (cellsQ_iff.1 hq).1
    simp only [heapLarge, Bool.or_eq_false_iff, decide_eq_false_iff_not] at this
    omega
  by_cases a5 : a.kind = 5
  · obtain ⟨p1, p2⟩ := hr a5
    obtain ⟨n, hnl, rfl⟩ : ∃ (n : Nat) (_ : n < s.cells.length), a = ⟨5, n⟩ := ⟨a.n.toNat, by omega, by cases a; simp at a5 p1 ⊢; exact ⟨a5, by omega⟩⟩
    have hn' : (n : Int) < (s.cells.length : Int) := by omega
    have hvl := (cell_vals hq hnl).2.2
    simp [m0, hnl, hn']
    refine ⟨.inl (by omega), fun _ => ?_⟩
    refine textIn_ok s hq ⟨5, n⟩ hfa ?_
    simp
    refine textMade_ok s htl _ (fun k hk => ?_) (fun hn hb => ?_) (fun hn hb => ?_)
    · unfold internW at h
      rw [hk, if_pos (by omega)] at h
      simp [m0, m1, m2]
      refine same _ ⟨4, k⟩ _ ?_ h
      repeat' (first | exact mS | exact sol' | exact dV_sol _ | exact (valBlk_new _).sol | exact (shpBlk_new _).sol | exact (txtBlk_new _).sol | exact (endBlk_new _).sol | refine hsolN ?_ | refine HSol.set ?_ ?_ | (simp; done))
    · unfold internW at h
      rw [if_neg hn, if_pos hb] at h
      simp [m0, m1, m2]
      refine same _ nilG _ ?_ h
      repeat' (first | exact mS | exact sol' | exact dV_sol _ | exact (valBlk_new _).sol | exact (shpBlk_new _).sol | exact (txtBlk_new _).sol | exact (endBlk_new _).sol | refine hsolN ?_ | refine HSol.set ?_ ?_ | (simp; done))
    · unfold internW at h
      rw [if_neg hn, if_neg hb] at h
      simp [m0, m1, m2]
      refine and_ofP ?_ fun _ => ⟨.tup [aD (eState (s.withTx (s.texts ++ [textW s ⟨5, n⟩]))), aD (eVal ⟨4, s.texts.length⟩), dI (-1)], ⟨?_, val_shw _, ⟨_, rfl, .d rfl⟩, trivial⟩, h⟩
      · skip
        repeat' (first | exact mS | exact sol' | exact dV_sol _ | exact (valBlk_new _).sol | exact (shpBlk_new _).sol | exact (txtBlk_new _).sol | exact (endBlk_new _).sol | refine hsolN ?_ | refine HSol.set ?_ ?_ | (simp; done))
      · rw [show s.texts.length + 1 = (s.texts ++ [textW s ⟨5, n⟩]).length by simp]
        exact stateA_shw (t := s.withTx (s.texts ++ [textW s ⟨5, n⟩])) (.d rfl) (.d rfl) (Shw.txts trivial (by simp [Hp.set])) (.d rfl) (.d rfl) (.d rfl)
  · simp [m0, a5]
    refine textIn_ok s hq a hfa ?_
    simp
    refine textMade_ok s htl _ (fun k hk => ?_) (fun hn hb => ?_) (fun hn hb => ?_)
    · unfold internW at h
      rw [hk, if_pos (by omega)] at h
      simp [m0, m1, m2]
      refine same _ ⟨4, k⟩ _ ?_ h
      repeat' (first | exact mS | exact sol' | exact dV_sol _ | exact (valBlk_new _).sol | exact (shpBlk_new _).sol | exact (txtBlk_new _).sol | exact (endBlk_new _).sol | refine hsolN ?_ | refine HSol.set ?_ ?_ | (simp; done))
    · unfold internW at h
      rw [if_neg hn, if_pos hb] at h
      simp [m0, m1, m2]
      refine same _ nilG _ ?_ h
      repeat' (first | exact mS | exact sol' | exact dV_sol _ | exact (valBlk_new _).sol | exact (shpBlk_new _).sol | exact (txtBlk_new _).sol | exact (endBlk_new _).sol | refine hsolN ?_ | refine HSol.set ?_ ?_ | (simp; done))
    · unfold internW at h
      rw [if_neg hn, if_neg hb] at h
      simp [m0, m1, m2]
      refine and_ofP ?_ fun _ => ⟨.tup [aD (eState (s.withTx (s.texts ++ [textW s a]))), aD (eVal ⟨4, s.texts.length⟩), dI (-1)], ⟨?_, val_shw _, ⟨_, rfl, .d rfl⟩, trivial⟩, h⟩
      · skip
        repeat' (first | exact mS | exact sol' | exact dV_sol _ | exact (valBlk_new _).sol | exact (shpBlk_new _).sol | exact (txtBlk_new _).sol | exact (endBlk_new _).sol | refine hsolN ?_ | refine HSol.set ?_ ?_ | (simp; done))
      · rw [show s.texts.length + 1 = (s.texts ++ [textW s a]).length by simp]
        exact stateA_shw (t := s.withTx (s.texts ++ [textW s a])) (.d rfl) (.d rfl) (Shw.txts trivial (by simp [Hp.set])) (.d rfl) (.d rfl) (.d rfl)
theorem Shw.ends {H : Hp} {N : Nat → Prop} {n : Nat} {l : List GEnd} (hn : N n) (hx : H n = some (endBlk l)) : Shw H N (.own n 3 l.length) (.sl true (l.map eEnd)) := Shw.row hn hx rfl (by simp) (by simp [endBlk, List.take_of_length_le]) (fun e he => by obtain ⟨x, -, rfl⟩ := List.mem_map.1 he; rfl) (fun e he d hd => by obtain ⟨x, -, rfl⟩ := List.mem_map.1 he; simp [eEnd] at hd; rcases hd with rfl | rfl | rfl <;> rfl)
theorem stateE_shw {H : Hp} {c1 c2 c3 c4 c5 c6 : C} {t : GState} (h1 : Shw H (fun _ => True) c1 (.sl true (t.cells.map eCell))) (h2 : Shw H (fun _ => True) c2 (.sl true (t.shapes.map eShape))) (h3 : Shw H (fun _ => True) c3 (.sl true (t.texts.map eStr))) (h4 : Shw H (fun _ => True) c4 (.sl true (t.threads.map eThread))) (h5 : Shw H (fun _ => True) c5 (.sl true (t.ends.map eEnd))) (h6 : Shw H (fun _ => True) c6 (.sl true (t.said.map eVal))) :
    DShw H (fun _ => True) (.agg [c1, c2, c3, c4, c5, c6, .d (eI t.asked), .d (eI t.steps)]) (aD (eState t)) :=
  ⟨⟨_, rfl, h1⟩, ⟨_, rfl, h2⟩, ⟨_, rfl, h3⟩, ⟨_, rfl, h4⟩, ⟨_, rfl, h5⟩, ⟨_, rfl, h6⟩, ⟨_, rfl, .d rfl⟩, ⟨_, rfl, .d rfl⟩, trivial⟩
theorem callIn14 (s : GState) (hq : cellsQ wordsT s = 0) (args : List GVal) (hf : ∀ v ∈ args, fitsB s v = true) {K : D → List Blk → Prop} (h : K (.tup [aD (eState (callW s (14 : Nat) args).1), aD (eVal (callW s (14 : Nat) args).2.1), dI (callW s (14 : Nat) args).2.2]) []) :
    DPure Tryz.prog 8 [aD (eState s), dI (14 : Nat), dL true (args.map eVal)] K := by
  refine DPure.ofI ?_
  have same : ∀ (X : Hp) (v : GVal) (e : Int), HSol X → K (.tup [aD (eState s), aD (eVal v), dI e]) [] → HSol X ∧ ∃ d', DShw X (fun _ => True) (.tup [aD (eState s), aD (eVal v), dI e]) d' ∧ K d' [] := fun X v e hx hk => ⟨hx, .tup [aD (eState s), aD (eVal v), dI e], ⟨CsS.csShw (CsS.dat (by simp)), val_shw v, ⟨_, rfl, .d rfl⟩, trivial⟩, hk⟩
  refine fni_ok ciKs ciPl Tryz.func8 rfl (by kernel_rfl) rfl rfl rfl rfl (by kernel_rfl) ?_
  rw [vc_seq, vc_region]
  generalize hK1 : onlyK _ _ = K1
  simp
  rw [← hK1]
  clear hK1
  rw [onlyK_mk, thenK_normal, vc_seq, vc_region]
  generalize hK1 : onlyK _ _ = K1
  iterate 17 (rw [vcL_cons]; simp [-vcL_cons])
  rw [vcL_cons]
  simp
  rw [← hK1]
  clear hK1
  rw [onlyK_mk, thenK_normal]
  generalize hM : Hp.set _ _ _ = M
  have m0 : M 0 = some ⟨.c 29, 8, [(eState s).map .d]⟩ := by rw [← hM]; rfl
  have m1 : M 1 = some ⟨.c 29, 8, [[.d .emp, .d .emp, .d .emp, .d .emp, .d .emp, .d .emp, .d (eI 0), .d (eI 0)]]⟩ := by rw [← hM]; rfl
  have m2 : M 2 = some ⟨.c 31, 2, [[.d (eI 0), .d (eI 0)]]⟩ := by rw [← hM]; rfl
  have m3 : M 3 = some ⟨.c 9, 1, [[.d (eS wAny)]]⟩ := by rw [← hM]; rfl
  have m4 : M 4 = some ⟨.c 9, 1, [[.d (eS wList)], [.d (eS wAny)]]⟩ := by rw [← hM]; rfl
  have m5 : M 5 = some ⟨.c 9, 1, [[.d (eS wList)]]⟩ := by rw [← hM]; rfl
  have m6 : M 6 = some ⟨.c 9, 1, [[.d (eS wObj)]]⟩ := by rw [← hM]; rfl
  have m7 : M 7 = some ⟨.c 9, 1, [[.d (eS wAny)]]⟩ := by rw [← hM]; rfl
  have m8 : M 8 = some ⟨.c 9, 1, [[.d (eS wAny)]]⟩ := by rw [← hM]; rfl
  have m9 : M 9 = some ⟨.c 9, 1, [[.d (eS wInt)]]⟩ := by rw [← hM]; rfl
  have m10 : M 10 = some ⟨.c 9, 1, [[.d (eS wFlo)]]⟩ := by rw [← hM]; rfl
  have m11 : M 11 = some ⟨.c 9, 1, [[.d (eS wGen)], [.d (eS wAny)]]⟩ := by rw [← hM]; rfl
  have m12 : M 12 = some ⟨.c 9, 1, [[.d (eS wGen)]]⟩ := by rw [← hM]; rfl
  have m13 : M 13 = some ⟨.c 9, 1, [[.d (eS wWeak)], [.d (eS wRef)], [.d (eS wAny)]]⟩ := by rw [← hM]; rfl
  have m14 : M 14 = some ⟨.c 9, 1, [[.d (eS wWeak)], [.d (eS wRef)]]⟩ := by rw [← hM]; rfl
  have m15 : M 15 = some ⟨.c 9, 1, [[.d (eS wRef)], [.d (eS wFun)]]⟩ := by rw [← hM]; rfl
  have m16 : M 16 = some ⟨.c 24, 1, [[C.own 3 1 1], [C.own 4 1 2], [C.own 5 1 1], [C.own 6 1 1], [C.own 7 1 1], [C.own 8 1 1], [C.own 9 1 1], [C.own 10 1 1], [C.own 11 1 2], [C.own 12 1 1], [C.d Dt.emp], [C.d Dt.emp], [C.own 13 1 3], [C.own 14 1 2], [C.own 15 1 2], [C.d Dt.emp]]⟩ := by rw [← hM]; rfl
  have mS : HSol M := by
    rw [← hM]
    repeat' (first | exact HSol.nil | exact HSol.zero | refine HSol.set ?_ ?_ | (simp; done))
  clear hM
  simp
  refine between_ok _ _ _ ?_
  have hb1 : btw ((14 : Nat) : Int) 0 15 = true := rfl
  have hlW : (formW 14).length = 2 := rfl
  by_cases hl : args.length = 2
  case neg =>
    have e : callW s ((14 : Nat) : Int) args = (s, nilG, 7) := by
      unfold callW
      rw [if_neg (by decide), if_pos (by rw [Int.toNat_natCast, ← formW_len (show 14 < 16 by omega), hlW]; exact hl)]
    rw [e] at h
    have hl' : ¬ (args.length : Int) = 2 := by omega
    simp [hb1, m16, hl, hl']
    intro _
    refine no_ic (by simp) m0 mS 7 fun H' nx' hnx low' sol' => ?_
    have g1 := (low' 1 (by omega)).trans m1
    have g2 := (low' 2 (by omega)).trans m2
    simp [g1, g2]
    exact same _ _ _ (HSol.set (HSol.set sol' (by simp)) (by simp)) h
  have hl' : (args.length : Int) = 2 := by omega
  simp [hb1, m16, hl, hl']
  refine loop_ok (ks := ciKs) (pl := ciPl) (n0 := 422) (fun x : {k : Nat // k ≤ 2 ∧ ∀ j (_ : j < args.length), j < k → argS s ((formW 14).getD j wAny) args[j] = true} => [(70, dI x.1)]) (fun x => 2 - x.1) ⟨0, by omega, fun j _ h => absurd h (Nat.not_lt_zero _)⟩ rfl (by kernel_rfl) (Wk.sub (by simp)) ?_
  rintro ⟨k, hk, ht⟩
  by_cases h3 : k < 2
  case pos =>
    have bad : argS s ((formW 14).getD k wAny) args[k] = false → K (.tup [aD (eState s), aD (eVal nilG), dI 0]) [] := fun hb => by
      have e : callW s ((14 : Nat) : Int) args = (s, nilG, 0) := by
        unfold callW
        rw [if_neg (by decide), if_neg (by rw [Int.toNat_natCast, ← formW_len (show 14 < 16 by omega), hlW]; omega), if_pos ?_]
        rw [Int.toNat_natCast, Bool.eq_false_iff, args_same s (show 14 < 16 by omega)]
        intro hall
        rw [List.all_eq_true] at hall
        have := hall ((formW 14)[k]'(by omega), args[k]) (List.mem_iff_getElem.2 ⟨k, by simp; omega, by simp⟩)
        rw [List.getD_eq_getElem?_getD, List.getElem?_eq_getElem (by omega), Option.getD_some] at hb
        simp only at this
        rw [hb] at this
        cases this
      rw [e] at h
      exact h
    have good : argS s ((formW 14).getD k wAny) args[k] = true → ∀ j (_ : j < args.length), j < k + 1 → argS s ((formW 14).getD j wAny) args[j] = true := fun hb j hj hjk => by
      by_cases ej : j = k
      · subst ej; exact hb
      · exact ht j hj (by omega)
    have hka : k < args.length := by omega
    have hka' : (k : Int) < (args.length : Int) := by omega
    have hk3 : k = 0 ∨ k = 1 ∨ k = 2 := by omega
    rcases hk3 with rfl | rfl | rfl
    · skip
      simp [m15, hka, hka', m0]
      refine argFits_ok s _ _ ?_
      have hb0 : argS s ((formW 14).getD 0 wAny) args[0] = argS s wRef args[0] := rfl
      rw [hb0] at bad good
      clear hb0
      cases hb : argS s wRef args[0] with
      | false =>
        have hbad := bad hb
        simp
        refine no_ic (by simp) m0 mS 0 fun H' nx' hnx low' sol' => ?_
        have g1 := (low' 1 (by omega)).trans m1
        have g2 := (low' 2 (by omega)).trans m2
        simp [g1, g2]
        exact same _ _ _ (HSol.set (HSol.set sol' (by simp)) (by simp)) hbad
      | true =>
        simp
        exact ⟨0 + 1, by omega, ⟨by omega, good hb⟩, Wk.sub (by simp [show IntKind.i64.wrap 1 = 1 by kernel_rfl, show IntKind.i64.wrap 2 = 2 by kernel_rfl, show IntKind.i64.wrap 3 = 3 by kernel_rfl])⟩
    · skip
      simp [m15, hka, hka', m0]
      refine argFits_ok s _ _ ?_
      have hb0 : argS s ((formW 14).getD 1 wAny) args[1] = argS s wFun args[1] := rfl
      rw [hb0] at bad good
      clear hb0
      cases hb : argS s wFun args[1] with
      | false =>
        have hbad := bad hb
        simp
        refine no_ic (by simp) m0 mS 0 fun H' nx' hnx low' sol' => ?_
        have g1 := (low' 1 (by omega)).trans m1
        have g2 := (low' 2 (by omega)).trans m2
        simp [g1, g2]
        exact same _ _ _ (HSol.set (HSol.set sol' (by simp)) (by simp)) hbad
      | true =>
        simp
        exact ⟨1 + 1, by omega, ⟨by omega, good hb⟩, Wk.sub (by simp [show IntKind.i64.wrap 1 = 1 by kernel_rfl, show IntKind.i64.wrap 2 = 2 by kernel_rfl, show IntKind.i64.wrap 3 = 3 by kernel_rfl])⟩
    · exact absurd h3 (by omega)
  have ek : k = 2 := by omega
  subst ek
  have hab : argsB s (formB 14) args = true := by
    rw [args_same s (show 14 < 16 by omega), List.all_eq_true]
    intro x hx
    obtain ⟨i, hi, rfl⟩ := List.mem_iff_getElem.1 hx
    simp at hi
    have := ht i (by omega) (by omega)
    rw [List.getD_eq_getElem?_getD, List.getElem?_eq_getElem (by omega), Option.getD_some] at this
    simpa using this
  have e : callW s ((14 : Nat) : Int) args = callR s 14 args := callW_at (by omega) (by rw [← formW_len (show 14 < 16 by omega), hlW]; exact hl) hab
  rw [e] at h
  obtain ⟨a, b, rfl⟩ : ∃ a b, args = [a, b] := len_two hl
  have hfa := hf a (by simp)
  have hr := fits_ref hfa
  simp only [callR, valAt, List.getD_cons_zero, List.getD_cons_succ] at h
  have a5 : a.kind = 5 := by
    simp [argsB, formB] at hab
    simpa [argB] using hab.1
  obtain ⟨p1, p2⟩ := hr a5
  obtain ⟨n, hnl, rfl⟩ : ∃ (n : Nat) (_ : n < s.cells.length), a = ⟨5, n⟩ := ⟨a.n.toNat, by omega, by cases a; simp at a5 p1 ⊢; exact ⟨a5, by omega⟩⟩
  have hn' : (n : Int) < (s.cells.length : Int) := by omega
  have hvl := (cell_vals hq hnl).2.2
  have hat : cellAt s (n : Int) = s.cells[n] := at_nat hnl
  unfold atEndW at h
  simp only at h
  have hen : s.ends.length ≤ 100 := by
    have := (cellsQ_iff.1 hq).1
    simp only [heapLarge, Bool.or_eq_false_iff, decide_eq_false_iff_not] at this
    omega
  by_cases c1 : 100 ≤ s.ends.length
  · rw [if_pos c1] at h
    have c1' : (s.ends.length : Int) = 100 := by omega
    simp [m0, hnl, hn', c1']
    refine ⟨.inl (by omega), fun _ => fun _ => ?_⟩
    refine no_ic (cs := (eState s).map .d) (by simp) (by simp [Hp.set, m0]) ?_ _ fun H' nx' hnx low' sol' => ?_
    · skip
      repeat' (first | exact mS | exact sol' | exact dV_sol _ | exact (valBlk_new _).sol | exact (shpBlk_new _).sol | exact (txtBlk_new _).sol | exact (endBlk_new _).sol | refine hsolN ?_ | refine HSol.set ?_ ?_ | (simp; done))
    have g1 : H' 1 = some ⟨.c 29, 8, [[.d .emp, .d .emp, .d .emp, .d .emp, .d .emp, .d .emp, .d (eI 0), .d (eI 0)]]⟩ := (low' 1 (by omega)).trans (by simp [Hp.set, m1])
    have g2 : H' 2 = some ⟨.c 31, 2, [[.d (eI 0), .d (eI 0)]]⟩ := (low' 2 (by omega)).trans (by simp [Hp.set, m2])
    simp [g1, g2]
    exact same _ _ _ (HSol.set (HSol.set sol' (by simp)) (by simp)) h
  rw [if_neg c1] at h
  have c1' : ¬ (s.ends.length : Int) = 100 := by omega
  simp [m0, hnl, hn', c1, c1']
  refine ⟨.inl (by omega), fun _ _ => ⟨?_, ?_⟩⟩
  · refine ⟨.inl (by omega), fun m b' hm hb => ?_, .inl (by omega), ?_⟩
    · subst hm
      simp at hb
      subst hb
      exact ⟨rfl, rfl⟩
    have er : List.map ((fun e => List.map C.d e) ∘ eEnd) s.ends ++ [[C.d (eI n), C.d (eI b.kind), C.d (eI b.n)]] = (endBlk (s.ends ++ [(⟨n, b⟩ : GEnd)])).es := by simp [endBlk, Function.comp_def, eEnd]
    have el : s.ends.length + 1 = (s.ends ++ [(⟨n, b⟩ : GEnd)]).length := by simp
    rw [er, el]
    refine no_ic (cs := [.d (.sl true (s.cells.map eCell)), .d (.sl true (s.shapes.map eShape)), .d (.sl true (s.texts.map eStr)), .d (.sl true (s.threads.map eThread)), .own 22 3 (s.ends ++ [(⟨n, b⟩ : GEnd)]).length, .d (.sl true (s.said.map eVal)), .d (eI s.asked), .d (eI s.steps)]) (by simp) (by simp [Hp.set]) ?_ _ fun H' nx' hnx low' sol' => ?_
    · have es1 : ∀ e ∈ List.map ((fun e => List.map C.d e) ∘ eEnd) s.ends, ∀ c ∈ e, C.solidC c = true := (endBlk_new s.ends).sol
      repeat' (first | exact mS | exact es1 | exact dV_sol _ | exact (endBlk_new _).sol | refine hsolN ?_ | refine HSol.set ?_ ?_ | (simp; done))
    have g1 : H' 1 = some ⟨.c 29, 8, [[.d .emp, .d .emp, .d .emp, .d .emp, .d .emp, .d .emp, .d (eI 0), .d (eI 0)]]⟩ := (low' 1 (by omega)).trans (by simp [Hp.set, m1])
    have g2 : H' 2 = some ⟨.c 31, 2, [[.d (eI 0), .d (eI 0)]]⟩ := (low' 2 (by omega)).trans (by simp [Hp.set, m2])
    have gv : H' 22 = some (endBlk (s.ends ++ [(⟨n, b⟩ : GEnd)])) := (low' 22 (by omega)).trans (by simp [Hp.set, endBlk])
    simp [g1, g2]
    refine and_ofP (HSol.set (HSol.set sol' (by simp)) (by simp)) fun _ => ⟨.tup [aD (eState (s.withEn (s.ends ++ [(⟨n, b⟩ : GEnd)]))), aD (eVal nilG), dI (-1)], ⟨?_, val_shw _, ⟨_, rfl, .d rfl⟩, trivial⟩, h⟩
    rw [el]
    exact stateE_shw (t := s.withEn (s.ends ++ [(⟨n, b⟩ : GEnd)])) (.d rfl) (.d rfl) (.d rfl) (.d rfl) (Shw.ends trivial (by rw [Hp.set_ne _ _ (by omega), Hp.set_ne _ _ (by omega)]; exact gv)) (.d rfl)
  · refine ⟨.inl (by omega), fun m b' hm hb => ?_, .inl (by omega), ?_⟩
    · subst hm
      simp at hb
      subst hb
      exact ⟨rfl, rfl⟩
    have er : List.map ((fun e => List.map C.d e) ∘ eEnd) s.ends ++ [[C.d (eI n), C.d (eI b.kind), C.d (eI b.n)]] = (endBlk (s.ends ++ [(⟨n, b⟩ : GEnd)])).es := by simp [endBlk, Function.comp_def, eEnd]
    have el : s.ends.length + 1 = (s.ends ++ [(⟨n, b⟩ : GEnd)]).length := by simp
    rw [er, el]
    refine no_ic (cs := [.d (.sl true (s.cells.map eCell)), .d (.sl true (s.shapes.map eShape)), .d (.sl true (s.texts.map eStr)), .d (.sl true (s.threads.map eThread)), .own 22 3 (s.ends ++ [(⟨n, b⟩ : GEnd)]).length, .d (.sl true (s.said.map eVal)), .d (eI s.asked), .d (eI s.steps)]) (by simp) (by simp [Hp.set]) ?_ _ fun H' nx' hnx low' sol' => ?_
    · have es1 : ∀ e ∈ List.map ((fun e => List.map C.d e) ∘ eEnd) s.ends, ∀ c ∈ e, C.solidC c = true := (endBlk_new s.ends).sol
      repeat' (first | exact mS | exact es1 | exact dV_sol _ | exact (endBlk_new _).sol | refine hsolN ?_ | refine HSol.set ?_ ?_ | (simp; done))
    have g1 : H' 1 = some ⟨.c 29, 8, [[.d .emp, .d .emp, .d .emp, .d .emp, .d .emp, .d .emp, .d (eI 0), .d (eI 0)]]⟩ := (low' 1 (by omega)).trans (by simp [Hp.set, m1])
    have g2 : H' 2 = some ⟨.c 31, 2, [[.d (eI 0), .d (eI 0)]]⟩ := (low' 2 (by omega)).trans (by simp [Hp.set, m2])
    have gv : H' 22 = some (endBlk (s.ends ++ [(⟨n, b⟩ : GEnd)])) := (low' 22 (by omega)).trans (by simp [Hp.set, endBlk])
    simp [g1, g2]
    refine and_ofP (HSol.set (HSol.set sol' (by simp)) (by simp)) fun _ => ⟨.tup [aD (eState (s.withEn (s.ends ++ [(⟨n, b⟩ : GEnd)]))), aD (eVal nilG), dI (-1)], ⟨?_, val_shw _, ⟨_, rfl, .d rfl⟩, trivial⟩, h⟩
    rw [el]
    exact stateE_shw (t := s.withEn (s.ends ++ [(⟨n, b⟩ : GEnd)])) (.d rfl) (.d rfl) (.d rfl) (.d rfl) (Shw.ends trivial (by rw [Hp.set_ne _ _ (by omega), Hp.set_ne _ _ (by omega)]; exact gv)) (.d rfl)
end Go.Proofs.YtbphdcffpobcbaaGreatDoor
