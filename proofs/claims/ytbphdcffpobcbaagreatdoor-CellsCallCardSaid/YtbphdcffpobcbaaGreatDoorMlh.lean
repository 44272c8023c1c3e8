/- Several texts in one. -/
import Derived.Test.YtbphdcffpobcbaaGreatDoorMlc
import Derived.Test.YtbphdcffpobcbaaGreatDoorMld
import Derived.Test.YtbphdcffpobcbaaGreatDoorMle
import Derived.Test.YtbphdcffpobcbaaGreatDoorMlf
import Derived.Test.YtbphdcffpobcbaaGreatDoorMlg
set_option linter.unusedSimpArgs false
set_option linter.unusedVariables false
set_option maxRecDepth 100000
set_option maxHeartbeats 16000000
namespace Go.Proofs.YtbphdcffpobcbaaGreatDoor
open Go.RowKit Go
def dKeep (key v : GVal) : List (GVal × GVal) → List (GVal × GVal)
  | [] => []
  | p :: ps => (if p.1 = key then (if v.kind = 0 then [] else [(p.1, v)]) else [p]) ++ dKeep key v ps
theorem dKeep_app (key v : GVal) : ∀ a b : List (GVal × GVal), dKeep key v (a ++ b) = dKeep key v a ++ dKeep key v b
  | [], _ => rfl
  | p :: a, b => by rw [List.cons_append, dKeep, dKeep, dKeep_app key v a b, List.append_assoc]
theorem dKeep_no (key v : GVal) : ∀ a : List (GVal × GVal), (∀ q ∈ a, q.1 ≠ key) → dKeep key v a = a
  | [], _ => rfl
  | p :: a, h => by
    rw [dKeep, if_neg (h p (List.mem_cons_self ..)), dKeep_no key v a fun q hq => h q (List.mem_cons_of_mem _ hq)]
    rfl
theorem dKeep_len (key v : GVal) : ∀ a : List (GVal × GVal), (dKeep key v a).length ≤ a.length
  | [] => Nat.le_refl _
  | p :: a => by
    rw [dKeep, List.length_append, List.length_cons]
    have := dKeep_len key v a
    split
    · split <;> simp <;> omega
    · simp; omega
def dThere (key : GVal) (ps : List (GVal × GVal)) : Bool := ps.any fun q => decide (q.1 = key)
def dLast (key v : GVal) (ps : List (GVal × GVal)) : List (GVal × GVal) := if dThere key ps = true ∨ v.kind = 0 then [] else [(key, v)]
theorem keep_doc {ps : List (GVal × GVal)} (h : KeysOk ps) (key v : GVal) (hv : v.kind = 0 → v = nilG) : keepL (unp ps) key v = unp (dKeep key v ps ++ dLast key v ps) := by
  have hv0 : v = nilG → v.kind = 0 := fun e => by rw [e]
  rw [unp_app]
  rcases keyAt_spec ps key with ⟨h1, h2⟩ | ⟨j, hj, h1, h2⟩
  · have ht : dThere key ps = false := by
      rw [← Bool.not_eq_true]
      intro e
      unfold dThere at e
      obtain ⟨q, hq, e2⟩ := List.any_eq_true.1 e
      exact h2 q hq (by simpa using e2)
    rw [dKeep_no key v ps h2]
    unfold keepL dLast
    rw [h1, ht]
    by_cases c : v = nilG
    · rw [if_pos c, if_neg (by omega), if_pos (.inr (hv0 c))]
      simp
    · have c2 : ¬ v.kind = 0 := fun e => c (hv e)
      rw [if_neg c, if_neg (by omega), if_neg (by simp [c2])]
      simp
  · have ht : dThere key ps = true := by
      unfold dThere
      exact List.any_eq_true.2 ⟨ps[j], List.getElem_mem hj, by simpa using h1⟩
    have e1 : ps = ps.take j ++ ps[j] :: ps.drop (j + 1) := by
      rw [List.getElem_cons_drop hj, List.take_append_drop]
    have n1 : ∀ q ∈ ps.take j, q.1 ≠ key := fun q hq e => by
      obtain ⟨i, hi, rfl⟩ := List.mem_iff_getElem.1 hq
      rw [List.length_take] at hi
      rw [List.getElem_take] at e
      have := keys_at h (show i < ps.length by omega) hj (e.trans h1.symm)
      omega
    have n2 : ∀ q ∈ ps.drop (j + 1), q.1 ≠ key := fun q hq e => by
      obtain ⟨i, hi, rfl⟩ := List.mem_iff_getElem.1 hq
      rw [List.length_drop] at hi
      rw [List.getElem_drop] at e
      have := keys_at h (show j + 1 + i < ps.length by omega) hj (e.trans h1.symm)
      omega
    have e2 : dKeep key v ps = ps.take j ++ ((if v.kind = 0 then [] else [(ps[j].1, v)]) ++ ps.drop (j + 1)) := by
      conv => lhs; rw [e1]
      rw [dKeep_app, dKeep, if_pos h1, dKeep_no key v _ n1, dKeep_no key v _ n2]
    have e3 : dLast key v ps = [] := by unfold dLast; rw [if_pos (.inl ht)]
    rw [e2, e3]
    unfold keepL
    rw [h2]
    by_cases c : v = nilG
    · rw [if_pos c, if_pos (by omega), Int.toNat_natCast, if_pos (hv0 c)]
      rw [unp_take, show 2 * j + 2 = 2 * (j + 1) by omega, unp_drop]
      simp [unp_app]
    · have c2 : ¬ v.kind = 0 := fun e => c (hv e)
      rw [if_neg c, if_pos (by omega), Int.toNat_natCast, if_neg c2, unp_set ps j hj v]
      rw [List.set_eq_take_append_cons_drop, if_pos hj]
      simp [unp_app]
structure KwS where
  k : Nat
  H : Hp
  nx : Nat
  q : Nat
structure KwI (M : Hp) (b v : GVal) (ps : List (GVal × GVal)) (x : KwS) : Prop where
  k : x.k ≤ ps.length
  q : 20 ≤ x.q ∧ x.q < x.nx
  blk : x.H x.q = some (valBlk (unp (dKeep b v (ps.take x.k))))
  low : ∀ i, i < 20 → x.H i = M i
  sol : HSol x.H
theorem callIn12 (s : GState) (hq : cellsQ wordsT s = 0) (args : List GVal) (hf : ∀ v ∈ args, fitsB s v = true) {K : D → List Blk → Prop} (h : K (.tup [aD (eState (callW s (12 : Nat) args).1), aD (eVal (callW s (12 : Nat) args).2.1), dI (callW s (12 : Nat) args).2.2]) []) :
    DPure Tryz.prog 8 [aD (eState s), dI (12 : Nat), dL true (args.map eVal)] K := by
  refine DPure.ofI ?_
  have same : ∀ (X : Hp) (v : GVal) (e : Int), HSol X → K (.tup [aD (eState s), aD (eVal v), dI e]) [] → HSol X ∧ ∃ d', DShw X (fun _ => True) (.tup [aD (eState s), aD (eVal v), dI e]) d' ∧ K d' [] := fun X v e hx hk => ⟨hx, .tup [aD (eState s), aD (eVal v), dI e], ⟨CsS.csShw (CsS.dat (by simp)), val_shw v, ⟨_, rfl, .d rfl⟩, trivial⟩, hk⟩
  refine fni_ok ciKs ciPl Tryz.func8 rfl (by kernel_rfl) rfl rfl rfl rfl (by kernel_rfl) ?_
  rw [vc_seq, vc_region]
  generalize hK1 : onlyK _ _ = K1
  simp
  rw [← hK1]
  clear hK1
  rw [onlyK_mk, thenK_normal, vc_seq, vc_region]
  generalize hK1 : onlyK _ _ = K1
  iterate 17 (rw [vcL_cons]; simp [-vcL_cons])
  rw [vcL_cons]
  simp
  rw [← hK1]
  clear hK1
  rw [onlyK_mk, thenK_normal]
  generalize hM : Hp.set _ _ _ = M
  have m0 : M 0 = some ⟨.c 29, 8, [(eState s).map .d]⟩ := by rw [← hM]; rfl
  have m1 : M 1 = some ⟨.c 29, 8, [[.d .emp, .d .emp, .d .emp, .d .emp, .d .emp, .d .emp, .d (eI 0), .d (eI 0)]]⟩ := by rw [← hM]; rfl
  have m2 : M 2 = some ⟨.c 31, 2, [[.d (eI 0), .d (eI 0)]]⟩ := by rw [← hM]; rfl
  have m3 : M 3 = some ⟨.c 9, 1, [[.d (eS wAny)]]⟩ := by rw [← hM]; rfl
  have m4 : M 4 = some ⟨.c 9, 1, [[.d (eS wList)], [.d (eS wAny)]]⟩ := by rw [← hM]; rfl
  have m5 : M 5 = some ⟨.c 9, 1, [[.d (eS wList)]]⟩ := by rw [← hM]; rfl
  have m6 : M 6 = some ⟨.c 9, 1, [[.d (eS wObj)]]⟩ := by rw [← hM]; rfl
  have m7 : M 7 = some ⟨.c 9, 1, [[.d (eS wAny)]]⟩ := by rw [← hM]; rfl
  have m8 : M 8 = some ⟨.c 9, 1, [[.d (eS wAny)]]⟩ := by rw [← hM]; rfl
  have m9 : M 9 = some ⟨.c 9, 1, [[.d (eS wInt)]]⟩ := by rw [← hM]; rfl
  have m10 : M 10 = some ⟨.c 9, 1, [[.d (eS wFlo)]]⟩ := by rw [← hM]; rfl
  have m11 : M 11 = some ⟨.c 9, 1, [[.d (eS wGen)], [.d (eS wAny)]]⟩ := by rw [← hM]; rfl
  have m12 : M 12 = some ⟨.c 9, 1, [[.d (eS wGen)]]⟩ := by rw [← hM]; rfl
  have m13 : M 13 = some ⟨.c 9, 1, [[.d (eS wWeak)], [.d (eS wRef)], [.d (eS wAny)]]⟩ := by rw [← hM]; rfl
  have m14 : M 14 = some ⟨.c 9, 1, [[.d (eS wWeak)], [.d (eS wRef)]]⟩ := by rw [← hM]; rfl
  have m15 : M 15 = some ⟨.c 9, 1, [[.d (eS wRef)], [.d (eS wFun)]]⟩ := by rw [← hM]; rfl
  have m16 : M 16 = some ⟨.c 24, 1, [[C.own 3 1 1], [C.own 4 1 2], [C.own 5 1 1], [C.own 6 1 1], [C.own 7 1 1], [C.own 8 1 1], [C.own 9 1 1], [C.own 10 1 1], [C.own 11 1 2], [C.own 12 1 1], [C.d Dt.emp], [C.d Dt.emp], [C.own 13 1 3], [C.own 14 1 2], [C.own 15 1 2], [C.d Dt.emp]]⟩ := by rw [← hM]; rfl
  have mS : HSol M := by
    rw [← hM]
    repeat' (first | exact HSol.nil | exact HSol.zero | refine HSol.set ?_ ?_ | (simp; done))
  clear hM
  simp
  refine between_ok _ _ _ ?_
  have hb1 : btw ((12 : Nat) : Int) 0 15 = true := rfl
  have hlW : (formW 12).length = 3 := rfl
  by_cases hl : args.length = 3
  case neg =>
    have e : callW s ((12 : Nat) : Int) args = (s, nilG, 7) := by
      unfold callW
      rw [if_neg (by decide), if_pos (by rw [Int.toNat_natCast, ← formW_len (show 12 < 16 by omega), hlW]; exact hl)]
    rw [e] at h
    have hl' : ¬ (args.length : Int) = 3 := by omega
    simp [hb1, m16, hl, hl']
    intro _
    refine no_ic (by simp) m0 mS 7 fun H' nx' hnx low' sol' => ?_
    have g1 := (low' 1 (by omega)).trans m1
    have g2 := (low' 2 (by omega)).trans m2
    simp [g1, g2]
    exact same _ _ _ (HSol.set (HSol.set sol' (by simp)) (by simp)) h
  have hl' : (args.length : Int) = 3 := by omega
  simp [hb1, m16, hl, hl']
  refine loop_ok (ks := ciKs) (pl := ciPl) (n0 := 422) (fun x : {k : Nat // k ≤ 3 ∧ ∀ j (_ : j < args.length), j < k → argS s ((formW 12).getD j wAny) args[j] = true} => [(70, dI x.1)]) (fun x => 3 - x.1) ⟨0, by omega, fun j _ h => absurd h (Nat.not_lt_zero _)⟩ rfl (by kernel_rfl) (Wk.sub (by simp)) ?_
  rintro ⟨k, hk, ht⟩
  by_cases h3 : k < 3
  case pos =>
    have bad : argS s ((formW 12).getD k wAny) args[k] = false → K (.tup [aD (eState s), aD (eVal nilG), dI 0]) [] := fun hb => by
      have e : callW s ((12 : Nat) : Int) args = (s, nilG, 0) := by
        unfold callW
        rw [if_neg (by decide), if_neg (by rw [Int.toNat_natCast, ← formW_len (show 12 < 16 by omega), hlW]; omega), if_pos ?_]
        rw [Int.toNat_natCast, Bool.eq_false_iff, args_same s (show 12 < 16 by omega)]
        intro hall
        rw [List.all_eq_true] at hall
        have := hall ((formW 12)[k]'(by omega), args[k]) (List.mem_iff_getElem.2 ⟨k, by simp; omega, by simp⟩)
        rw [List.getD_eq_getElem?_getD, List.getElem?_eq_getElem (by omega), Option.getD_some] at hb
        simp only at this
        rw [hb] at this
        cases this
      rw [e] at h
      exact h
    have good : argS s ((formW 12).getD k wAny) args[k] = true → ∀ j (_ : j < args.length), j < k + 1 → argS s ((formW 12).getD j wAny) args[j] = true := fun hb j hj hjk => by
      by_cases ej : j = k
      · subst ej; exact hb
      · exact ht j hj (by omega)
    have hka : k < args.length := by omega
    have hka' : (k : Int) < (args.length : Int) := by omega
    have hk3 : k = 0 ∨ k = 1 ∨ k = 2 := by omega
    rcases hk3 with rfl | rfl | rfl
    · skip
      simp [m13, hka, hka', m0]
      refine argFits_ok s _ _ ?_
      have hb0 : argS s ((formW 12).getD 0 wAny) args[0] = argS s wWeak args[0] := rfl
      rw [hb0] at bad good
      clear hb0
      cases hb : argS s wWeak args[0] with
      | false =>
        have hbad := bad hb
        simp
        refine no_ic (by simp) m0 mS 0 fun H' nx' hnx low' sol' => ?_
        have g1 := (low' 1 (by omega)).trans m1
        have g2 := (low' 2 (by omega)).trans m2
        simp [g1, g2]
        exact same _ _ _ (HSol.set (HSol.set sol' (by simp)) (by simp)) hbad
      | true =>
        simp
        exact ⟨0 + 1, by omega, ⟨by omega, good hb⟩, Wk.sub (by simp [show IntKind.i64.wrap 1 = 1 by kernel_rfl, show IntKind.i64.wrap 2 = 2 by kernel_rfl, show IntKind.i64.wrap 3 = 3 by kernel_rfl])⟩
    · skip
      simp [m13, hka, hka', m0]
      refine argFits_ok s _ _ ?_
      have hb0 : argS s ((formW 12).getD 1 wAny) args[1] = argS s wRef args[1] := rfl
      rw [hb0] at bad good
      clear hb0
      cases hb : argS s wRef args[1] with
      | false =>
        have hbad := bad hb
        simp
        refine no_ic (by simp) m0 mS 0 fun H' nx' hnx low' sol' => ?_
        have g1 := (low' 1 (by omega)).trans m1
        have g2 := (low' 2 (by omega)).trans m2
        simp [g1, g2]
        exact same _ _ _ (HSol.set (HSol.set sol' (by simp)) (by simp)) hbad
      | true =>
        simp
        exact ⟨1 + 1, by omega, ⟨by omega, good hb⟩, Wk.sub (by simp [show IntKind.i64.wrap 1 = 1 by kernel_rfl, show IntKind.i64.wrap 2 = 2 by kernel_rfl, show IntKind.i64.wrap 3 = 3 by kernel_rfl])⟩
    · skip
      simp [m13, hka, hka', m0]
      refine argFits_ok s _ _ ?_
      have hb0 : argS s ((formW 12).getD 2 wAny) args[2] = argS s wAny args[2] := rfl
      rw [hb0] at bad good
      clear hb0
      cases hb : argS s wAny args[2] with
      | false =>
        have hbad := bad hb
        simp
        refine no_ic (by simp) m0 mS 0 fun H' nx' hnx low' sol' => ?_
        have g1 := (low' 1 (by omega)).trans m1
        have g2 := (low' 2 (by omega)).trans m2
        simp [g1, g2]
        exact same _ _ _ (HSol.set (HSol.set sol' (by simp)) (by simp)) hbad
      | true =>
        simp
        exact ⟨2 + 1, by omega, ⟨by omega, good hb⟩, Wk.sub (by simp [show IntKind.i64.wrap 1 = 1 by kernel_rfl, show IntKind.i64.wrap 2 = 2 by kernel_rfl, show IntKind.i64.wrap 3 = 3 by kernel_rfl])⟩
  have ek : k = 3 := by omega
  subst ek
  have hab : argsB s (formB 12) args = true := by
    rw [args_same s (show 12 < 16 by omega), List.all_eq_true]
    intro x hx
    obtain ⟨i, hi, rfl⟩ := List.mem_iff_getElem.1 hx
    simp at hi
    have := ht i (by omega) (by omega)
    rw [List.getD_eq_getElem?_getD, List.getElem?_eq_getElem (by omega), Option.getD_some] at this
    simpa using this
  have e : callW s ((12 : Nat) : Int) args = callR s 12 args := callW_at (by omega) (by rw [← formW_len (show 12 < 16 by omega), hlW]; exact hl) hab
  rw [e] at h
  obtain ⟨a, b, v, rfl⟩ : ∃ a b v, args = [a, b, v] := by
    match args, hl with
    | [a, b, v], _ => exact ⟨a, b, v, rfl⟩
  have hfa := hf a (by simp)
  have hr := fits_ref hfa
  simp only [callR, valAt, List.getD_cons_zero, List.getD_cons_succ] at h
  have hv0 : v.kind = 0 → v = nilG := fun e => by
    have := hf v (by simp)
    simp only [fitsB, Bool.and_eq_true] at this
    have := this.1
    rw [e] at this
    simp [rightB] at this
    cases v
    simp at e this
    rw [e, this]
  have hab1 : namesB s a 7 = true := by
    simp [argsB, formB] at hab
    exact hab.1
  have a5 : a.kind = 5 := by obtain ⟨n, -, e, -⟩ := names_cell hab1; rw [e]
  obtain ⟨p1, p2⟩ := hr a5
  obtain ⟨n, hnl, rfl⟩ : ∃ (n : Nat) (_ : n < s.cells.length), a = ⟨5, n⟩ := ⟨a.n.toNat, by omega, by cases a; simp at a5 p1 ⊢; exact ⟨a5, by omega⟩⟩
  have hn' : (n : Int) < (s.cells.length : Int) := by omega
  have hvl := (cell_vals hq hnl).2.2
  have hat : cellAt s (n : Int) = s.cells[n] := at_nat hnl
  obtain ⟨n', hn2, e1, -, hk⟩ := names_cell hab1
  obtain rfl : n = n' := by simp at e1; omega
  clear e1
  obtain ⟨d, -, -, -⟩ := heap_cell hq hnl
  obtain ⟨g1, -, -, -⟩ := cellB_parts d
  obtain ⟨-, w2⟩ := kind_weak g1 hk
  obtain ⟨ps, hps, hk5, hnd⟩ := weak_iff.1 w2
  have hpl : s.cells[n].vals.length = 2 * ps.length := by rw [hps, unp_len]
  unfold keepW at h
  simp only [hat] at h
  have hkd := keep_doc (ps := ps) ⟨hk5, hnd⟩ b v hv0
  rw [← hps] at hkd
  rw [hkd] at h
  obtain ⟨l, hl0⟩ : ∃ l, l = s.cells[n].vals := ⟨_, rfl⟩
  rw [← hl0] at hps hpl hvl
  have hcl : s.cells.length ≤ 300 := by
    have := (cellsQ_iff.1 hq).1
    simp only [heapLarge, Bool.or_eq_false_iff, decide_eq_false_iff_not] at this
    omega
  simp [m0, hnl, hn', ← hl0]
  refine ⟨.inl (by omega), fun _ => ?_⟩
  generalize hX : Hp.set _ 19 _ = M1
  have i0 : M1 0 = some ⟨.c 29, 8, [(eState s).map .d]⟩ := by rw [← hX]; simp [Hp.set, m0]
  have i1 : M1 1 = some ⟨.c 29, 8, [[.d .emp, .d .emp, .d .emp, .d .emp, .d .emp, .d .emp, .d (eI 0), .d (eI 0)]]⟩ := by rw [← hX]; simp [Hp.set, m1]
  have i2 : M1 2 = some ⟨.c 31, 2, [[.d (eI 0), .d (eI 0)]]⟩ := by rw [← hX]; simp [Hp.set, m2]
  have i17 : M1 17 = some ⟨.c 31, 2, [[.d (eI 5), .d (eI n)]]⟩ := by rw [← hX]; simp [Hp.set]
  have i19 : M1 19 = some (valBlk l) := by rw [← hX]; simp [Hp.set, valBlk, Function.comp_def]
  have iSol : HSol M1 := by
    rw [← hX]
    repeat' (first | exact mS | exact dV_sol _ | refine HSol.set ?_ ?_ | (simp; done))
  clear hX
  refine loopH_ok (ks := ciKs) (pl := ciPl) (n0 := 422) (α := {x : KwS // KwI M1 b v ps x}) (fun x => [(23, .one (.own x.1.q 2 (unp (dKeep b v (ps.take x.1.k))).length)), (24, dB (dThere b (ps.take x.1.k))), (25, dI ((2 * x.1.k : Nat) : Int))]) (fun _ x => x.1.H) (fun x => x.1.nx) (fun x => ps.length - x.1.k)
    ⟨⟨0, M1.set 20 (some ⟨.c 31, 2, []⟩), 21, 20⟩, ⟨Nat.zero_le _, ⟨by simp only; omega, by simp only; omega⟩, (by simp only; rw [Hp.set_same]; rfl), fun i hi => Hp.set_ne _ _ (by omega), iSol.set (by simp)⟩⟩ rfl (by kernel_rfl) ((Wk.emp (t := 23) 31 2 rfl).trans (Wk.sub (by simp [dKeep, dThere]))) ?_
  rintro ⟨⟨k, H2, nx2, q2⟩, ⟨hk2, hqb, hblk, hlow, hsol⟩⟩
  simp only at hk2 hqb hblk hlow hsol
  have j0 : H2 0 = some ⟨.c 29, 8, [(eState s).map .d]⟩ := by rw [hlow _ (by omega)]; exact i0
  have j1 : H2 1 = some ⟨.c 29, 8, [[.d .emp, .d .emp, .d .emp, .d .emp, .d .emp, .d .emp, .d (eI 0), .d (eI 0)]]⟩ := by rw [hlow _ (by omega)]; exact i1
  have j2 : H2 2 = some ⟨.c 31, 2, [[.d (eI 0), .d (eI 0)]]⟩ := by rw [hlow _ (by omega)]; exact i2
  have j17 : H2 17 = some ⟨.c 31, 2, [[.d (eI 5), .d (eI n)]]⟩ := by rw [hlow _ (by omega)]; exact i17
  have j19 : H2 19 = some (valBlk l) := by rw [hlow _ (by omega)]; exact i19
  by_cases h1 : k < ps.length
  · have h1' : 2 * (k : Int) < (l.length : Int) := by omega
    have h2 : 2 * k < l.length := by omega
    have h3 : 2 * k + 1 < l.length := by omega
    obtain ⟨u1, u2⟩ := unp_at ps k
    rw [← hps, List.getElem?_eq_getElem h1] at u1 u2
    simp only [Option.map_some] at u1 u2
    obtain ⟨u3, u4⟩ := List.getElem?_eq_some_iff.1 u1
    obtain ⟨u5, u6⟩ := List.getElem?_eq_some_iff.1 u2
    have et : ps.take (k + 1) = ps.take k ++ [ps[k]] := List.take_succ_eq_append_getElem h1
    obtain ⟨⟨w, w'⟩, hw0⟩ : ∃ w, w = ps[k] := ⟨_, rfl⟩
    rw [← hw0] at u4 u6 et
    simp only at u4 u6
    obtain ⟨L, hLe⟩ : ∃ L, L = unp (dKeep b v (ps.take k)) := ⟨_, rfl⟩
    have eK : unp (dKeep b v (ps.take (k + 1))) = L ++ unp (if w = b then (if v.kind = 0 then [] else [(w, v)]) else [(w, w')]) := by
      rw [et, dKeep_app, unp_app, ← hLe]
      simp [dKeep]
    have eT : dThere b (ps.take (k + 1)) = (dThere b (ps.take k) || decide (w = b)) := by
      rw [et]
      simp [dThere]
    have hLl0 : L.length ≤ 2 * ps.length := by
      rw [hLe, unp_len]
      have := dKeep_len b v (ps.take k)
      rw [List.length_take] at this
      omega
    rw [← hLe] at hblk ⊢
    clear hLe
    rw [valBlk] at hblk
    have htn : (2 * (k : Int)).toNat = 2 * k := by omega
    have hto : (2 * (k : Int) + 1).toNat = 2 * k + 1 := by omega
    have h0 : 0 ≤ 2 * (k : Int) := by omega
    have h5 : 0 ≤ 2 * (k : Int) + 1 := by omega
    have h6 : 2 * (k : Int) + 1 < (l.length : Int) := by omega
    have hwr : IntKind.i64.wrap (2 * (k : Int) + 2) = ((2 * (k + 1) : Nat) : Int) := by rw [wrap_id (by omega) (by omega)]; omega
    have hwo : IntKind.i64.wrap (2 * (k : Int) + 1) = 2 * (k : Int) + 1 := wrap_id (by omega) (by omega)
    have d1 : ¬ q2 = nx2 := by omega
    have d3 : ¬ nx2 = q2 := by omega
    have d4 : ¬ 19 = nx2 := by omega
    have hLl : L.length ≤ 2 * ps.length := hLl0
    rw [valBlk] at j19
    by_cases e : w = b
    · have ek : w.kind = b.kind ∧ w.n = b.n := by rw [e]; exact ⟨rfl, rfl⟩
      rw [if_pos e] at eK
      simp only [e, decide_true, Bool.or_true] at eT
      by_cases e0 : v.kind = 0
      · rw [if_pos e0] at eK
        simp [j0, j19, h1', h2, h3, u4, u6, htn, hto, h0, h5, h6, hwr, hwo, ek.1, ek.2, e0, hblk, d1, d3, d4]
        simp only [unp_nil, List.append_nil] at eK
        refine ⟨⟨k + 1, H2, nx2, q2⟩, by simp only; omega, ⟨by simp only; omega, hqb, by simp only; rw [eK, hblk]; rfl, hlow, hsol⟩, Wk.sub (by simp [eK, eT])⟩
      · rw [if_neg e0] at eK
        simp [j0, j19, h1', h2, h3, u4, u6, htn, hto, h0, h5, h6, hwr, hwo, ek.1, ek.2, e0, hblk, d1, d3, d4]
        rw [e] at eK
        have f1 : H2.set nx2 (some ⟨.c 31, 2, [[.d (eI b.kind), .d (eI b.n)], [.d (eI v.kind), .d (eI v.n)]]⟩) q2 = some ⟨.c 31, 2, L.map fun v => [.d (eI v.kind), .d (eI v.n)]⟩ := by rw [Hp.set_ne _ _ d1]; exact hblk
        refine ⟨fun m b' hm hb => ?_, .inl (by omega), ⟨⟨k + 1, ((H2.set nx2 (some ⟨.c 31, 2, [[.d (eI b.kind), .d (eI b.n)], [.d (eI v.kind), .d (eI v.n)]]⟩)).set q2 none).set (nx2 + 1) (some ⟨.c 31, 2, (L.map fun v => [.d (eI v.kind), .d (eI v.n)]) ++ [[.d (eI b.kind), .d (eI b.n)], [.d (eI v.kind), .d (eI v.n)]]⟩), nx2 + 1 + 1, nx2 + 1⟩, by simp only; omega, ⟨by simp only; omega, ⟨by simp only; omega, by simp only; omega⟩, ?_, fun i hi => ?_, ?_⟩, Wk.sub (by simp [eK, eT])⟩⟩
        · subst hm
          rw [if_neg d1, hblk] at hb
          simp only [Option.some.injEq] at hb
          subst hb
          exact ⟨rfl, rfl⟩
        · simp only
          rw [Hp.set_same, eK]
          simp [valBlk]
        · simp only
          rw [Hp.set_ne _ _ (by omega), Hp.set_ne _ _ (by omega), Hp.set_ne _ _ (by omega)]
          exact hlow i hi
        · simp only
          refine HSol.set (hsolN (HSol.set hsol (by simp))) ?_
          intro e he c hc
          rcases List.mem_append.1 he with he | he
          · obtain ⟨u, -, rfl⟩ := List.mem_map.1 he
            simp at hc
            rcases hc with rfl | rfl <;> rfl
          · simp at he
            rcases he with rfl | rfl
            · simp at hc
              rcases hc with rfl | rfl <;> rfl
            · simp at hc
              rcases hc with rfl | rfl <;> rfl
    · have ek : ¬ (w.kind = b.kind ∧ w.n = b.n) := fun h => e (by cases w; cases b; simp_all)
      rw [if_neg e] at eK
      simp only [e, decide_false, Bool.or_false] at eT
      simp [j0, j19, h1', h2, h3, u4, u6, htn, hto, h0, h5, h6, hwr, hwo, ek, hblk, d1, d3, d4]
      have f1 : H2.set nx2 (some ⟨.c 31, 2, [[.d (eI w.kind), .d (eI w.n)], [.d (eI w'.kind), .d (eI w'.n)]]⟩) q2 = some ⟨.c 31, 2, L.map fun v => [.d (eI v.kind), .d (eI v.n)]⟩ := by rw [Hp.set_ne _ _ d1]; exact hblk
      refine ⟨fun m b' hm hb => ?_, .inl (by omega), ⟨⟨k + 1, ((H2.set nx2 (some ⟨.c 31, 2, [[.d (eI w.kind), .d (eI w.n)], [.d (eI w'.kind), .d (eI w'.n)]]⟩)).set q2 none).set (nx2 + 1) (some ⟨.c 31, 2, (L.map fun v => [.d (eI v.kind), .d (eI v.n)]) ++ [[.d (eI w.kind), .d (eI w.n)], [.d (eI w'.kind), .d (eI w'.n)]]⟩), nx2 + 1 + 1, nx2 + 1⟩, by simp only; omega, ⟨by simp only; omega, ⟨by simp only; omega, by simp only; omega⟩, ?_, fun i hi => ?_, ?_⟩, Wk.sub (by simp [eK, eT])⟩⟩
      · subst hm
        rw [if_neg d1, hblk] at hb
        simp only [Option.some.injEq] at hb
        subst hb
        exact ⟨rfl, rfl⟩
      · simp only
        rw [Hp.set_same, eK]
        simp [valBlk]
      · simp only
        rw [Hp.set_ne _ _ (by omega), Hp.set_ne _ _ (by omega), Hp.set_ne _ _ (by omega)]
        exact hlow i hi
      · simp only
        refine HSol.set (hsolN (HSol.set hsol (by simp))) ?_
        intro e he c hc
        rcases List.mem_append.1 he with he | he
        · obtain ⟨u, -, rfl⟩ := List.mem_map.1 he
          simp at hc
          rcases hc with rfl | rfl <;> rfl
        · simp at he
          rcases he with rfl | rfl
          · simp at hc
            rcases hc with rfl | rfl <;> rfl
          · simp at hc
            rcases hc with rfl | rfl <;> rfl
  · obtain rfl : k = ps.length := by omega
    have h1' : ¬ 2 * (ps.length : Int) < (l.length : Int) := by omega
    rw [List.take_length] at hblk ⊢
    have hdl := dKeep_len b v ps
    have hul : (unp (dKeep b v ps)).length = 2 * (dKeep b v ps).length := unp_len _
    have es : ∀ LL, (setV s ⟨5, n⟩ LL).cells = s.cells.set n ⟨s.cells[n].kind, s.cells[n].num, LL, s.cells[n].frames⟩ := fun LL => by
      unfold setV setCS
      simp only [hat, Int.toNat_natCast]
    by_cases t0 : dThere b ps = true
    · have e2 : dLast b v ps = [] := by unfold dLast; rw [if_pos (.inl t0)]
      rw [e2, List.append_nil] at h
      simp [j0, j17, h1', t0]
      refine valsSet_ic s n hnl hcl q2 _ hsol fun H3 low3 sol3 row3 => ?_
      have t1 : H3 1 = some ⟨.c 29, 8, [[.d .emp, .d .emp, .d .emp, .d .emp, .d .emp, .d .emp, .d (eI 0), .d (eI 0)]]⟩ := (low3 1 (by omega)).trans (id j1)
      have t2 : H3 2 = some ⟨.c 31, 2, [[.d (eI 0), .d (eI 0)]]⟩ := (low3 2 (by omega)).trans (id j2)
      simp [t1, t2]
      refine and_ofP (HSol.set (HSol.set sol3 (by simp)) (by simp)) fun _ => ⟨.tup [aD (eState (setV s ⟨5, n⟩ (unp (dKeep b v ps)))), aD (eVal nilG), dI (-1)], ⟨stateC_shw (t := setV s ⟨5, n⟩ (unp (dKeep b v ps))) (s := s) ?_ (.d rfl) ⟨rfl, rfl, rfl, rfl, rfl, rfl⟩, val_shw _, ⟨_, rfl, .d rfl⟩, trivial⟩, h⟩
      rw [es]
      exact cellsSet_shw _ (by rw [Hp.set_ne _ _ (by omega), Hp.set_ne _ _ (by omega)]; exact row3) (Shw.vals trivial (by rw [Hp.set_ne _ _ (by omega), Hp.set_ne _ _ (by omega), low3 _ (by omega)]; exact hblk))
    by_cases e0 : v.kind = 0
    · have e2 : dLast b v ps = [] := by unfold dLast; rw [if_pos (.inr e0)]
      rw [e2, List.append_nil] at h
      simp [j0, j17, h1', t0, e0]
      refine valsSet_ic s n hnl hcl q2 _ hsol fun H3 low3 sol3 row3 => ?_
      have t1 : H3 1 = some ⟨.c 29, 8, [[.d .emp, .d .emp, .d .emp, .d .emp, .d .emp, .d .emp, .d (eI 0), .d (eI 0)]]⟩ := (low3 1 (by omega)).trans (id j1)
      have t2 : H3 2 = some ⟨.c 31, 2, [[.d (eI 0), .d (eI 0)]]⟩ := (low3 2 (by omega)).trans (id j2)
      simp [t1, t2]
      refine and_ofP (HSol.set (HSol.set sol3 (by simp)) (by simp)) fun _ => ⟨.tup [aD (eState (setV s ⟨5, n⟩ (unp (dKeep b v ps)))), aD (eVal nilG), dI (-1)], ⟨stateC_shw (t := setV s ⟨5, n⟩ (unp (dKeep b v ps))) (s := s) ?_ (.d rfl) ⟨rfl, rfl, rfl, rfl, rfl, rfl⟩, val_shw _, ⟨_, rfl, .d rfl⟩, trivial⟩, h⟩
      rw [es]
      exact cellsSet_shw _ (by rw [Hp.set_ne _ _ (by omega), Hp.set_ne _ _ (by omega)]; exact row3) (Shw.vals trivial (by rw [Hp.set_ne _ _ (by omega), Hp.set_ne _ _ (by omega), low3 _ (by omega)]; exact hblk))
    · have e2 : dLast b v ps = [(b, v)] := by unfold dLast; rw [if_neg (by simp [t0, e0])]
      rw [e2, unp_app] at h
      simp only [unp_cons, unp_nil] at h
      obtain ⟨L, hLe⟩ : ∃ L, L = unp (dKeep b v ps) := ⟨_, rfl⟩
      rw [← hLe] at hblk hul h ⊢
      clear hLe
      have d1 : ¬ q2 = nx2 := by omega
      have d3 : ¬ nx2 = q2 := by omega
      rw [valBlk] at hblk
      have p0 : ¬ 0 = q2 := by omega
      have p1 : ¬ 0 = nx2 := by omega
      have p2 : ¬ 17 = q2 := by omega
      have p3 : ¬ 17 = nx2 := by omega
      have p4 : ¬ 17 = nx2 + 1 := by omega
      simp [j0, j17, h1', t0, e0, hblk, d1, d3, p0, p1, p2, p3, p4]
      refine ⟨fun m b' hm hb => ?_, .inl (by omega), ?_⟩
      · subst hm
        rw [if_neg d1, hblk] at hb
        simp only [Option.some.injEq] at hb
        subst hb
        exact ⟨rfl, rfl⟩
      have er : (L.map fun v => [C.d (eI v.kind), C.d (eI v.n)]) ++ [[C.d (eI b.kind), C.d (eI b.n)], [C.d (eI v.kind), C.d (eI v.n)]] = (valBlk (L ++ [b, v])).es := by simp [valBlk]
      have el : L.length + 2 = (L ++ [b, v]).length := by simp
      rw [er, el]
      refine valsSet_ic s n hnl hcl (nx2 + 1) _ ?_ fun H3 low3 sol3 row3 => ?_
      · repeat' (first | exact hsol | exact (valBlk_new _).sol | refine hsolN ?_ | refine HSol.set ?_ ?_ | (simp; done))
      have t1 : H3 1 = some ⟨.c 29, 8, [[.d .emp, .d .emp, .d .emp, .d .emp, .d .emp, .d .emp, .d (eI 0), .d (eI 0)]]⟩ := by rw [low3 1 (by omega), Hp.set_ne _ _ (by omega), Hp.set_ne _ _ (by omega), Hp.set_ne _ _ (by omega)]; exact j1
      have t2 : H3 2 = some ⟨.c 31, 2, [[.d (eI 0), .d (eI 0)]]⟩ := by rw [low3 2 (by omega), Hp.set_ne _ _ (by omega), Hp.set_ne _ _ (by omega), Hp.set_ne _ _ (by omega)]; exact j2
      simp [t1, t2]
      refine and_ofP (HSol.set (HSol.set sol3 (by simp)) (by simp)) fun _ => ⟨.tup [aD (eState (setV s ⟨5, n⟩ (L ++ [b, v]))), aD (eVal nilG), dI (-1)], ⟨stateC_shw (t := setV s ⟨5, n⟩ (L ++ [b, v])) (s := s) ?_ (.d rfl) ⟨rfl, rfl, rfl, rfl, rfl, rfl⟩, val_shw _, ⟨_, rfl, .d rfl⟩, trivial⟩, h⟩
      rw [es]
      refine cellsSet_shw _ (cv := .own (nx2 + 1) 2 (L ++ [b, v]).length) ?_ (Shw.vals trivial (by rw [Hp.set_ne _ _ (by omega), Hp.set_ne _ _ (by omega), low3 _ (by omega), Hp.set_same]; rfl))
      rw [Hp.set_ne _ _ (by omega), Hp.set_ne _ _ (by omega)]
      exact row3
theorem callIn_ok (s : GState) (hq : cellsQ wordsT s = 0) (call : Int) (args : List GVal) (hf : ∀ v ∈ args, fitsB s v = true) {K : D → List Blk → Prop} (h : K (.tup [aD (eState (callW s call args).1), aD (eVal (callW s call args).2.1), dI (callW s call args).2.2]) []) :
    DPure Tryz.prog 8 [aD (eState s), dI call, dL true (args.map eVal)] K := by
  by_cases hc : call < 0 ∨ 16 ≤ call
  · exact callInX s call hc args h
  obtain ⟨N, rfl⟩ : ∃ N : Nat, call = N := ⟨call.toNat, by omega⟩
  have : N = 0 ∨ N = 1 ∨ N = 2 ∨ N = 3 ∨ N = 4 ∨ N = 5 ∨ N = 6 ∨ N = 7 ∨ N = 8 ∨ N = 9 ∨ N = 10 ∨ N = 11 ∨ N = 12 ∨ N = 13 ∨ N = 14 ∨ N = 15 := by omega
  rcases this with rfl | rfl | rfl | rfl | rfl | rfl | rfl | rfl | rfl | rfl | rfl | rfl | rfl | rfl | rfl | rfl
  · exact callIn0 s hq args hf h
  · exact callIn1 s hq args hf h
  · exact callIn2 s hq args hf h
  · exact callIn3 s hq args hf h
  · exact callIn4 s hq args hf h
  · exact callIn5 s hq args hf h
  · exact callIn6 s hq args hf h
  · exact callIn7 s hq args hf h
  · exact callIn8 s hq args hf h
  · exact callIn9 s hq args hf h
  · exact callIn10 s hq args hf h
  · exact callIn11 s hq args hf h
  · exact callIn12 s hq args hf h
  · exact callIn13 s hq args hf h
  · exact callIn14 s hq args hf h
  · exact callIn15 s hq args hf h
theorem cellsCall_ok (s : GState) (hw : OkW s) (call : Int) (args : List GVal) : DPure Tryz.prog 3 [aD (eState s), dI call, dL true (args.map eVal)] fun d _ => d = dB true := by
  refine fn_ok [0,1,2,3,6,7,8,9,10,11,12,25,35] [] Tryz.func3 rfl (by kernel_rfl) rfl rfl rfl rfl (by kernel_rfl) ?_
  simp
  refine callC_ok2 (hcAll call) s hw true args ?_
  by_cases a3 : askC s args = true
  case neg =>
    have e3 : callC s call args = (emptyS, nilG, 6) := by unfold callC; rw [if_neg a3]
    rw [e3]
    rw [Bool.not_eq_true] at a3
    simp
    refine heapAsked_ok s hw.ok true args ?_
    simp [a3]
    refine DPure.args empty_arg ?_
    refine sameStates_ok emptyS emptyS ?_
    simp
  obtain ⟨hq, hf⟩ := askC_iff.1 a3
  simp
  refine heapAsked_ok s hw.ok true args ?_
  simp [a3]
  refine callIn_ok s hq call args hf ?_
  have e3 : callC s call args = if 0 ≤ (callW s call args).2.2 then (emptyS, nilG, (callW s call args).2.2) else callW s call args := by unfold callC; rw [if_pos a3]
  rw [e3]
  generalize callW s call args = R at *
  obtain ⟨T, x, u⟩ := R
  by_cases q : 0 ≤ u
  · simp [q]
    refine DPure.args empty_arg ?_
    refine sameStates_ok emptyS emptyS ?_
    simp
  · simp [q]
    refine sameStates_ok T T ?_
    simp
end Go.Proofs.YtbphdcffpobcbaaGreatDoor
