/- Several texts in one. -/
import Derived.Test.YtjbkinmdcaegcaaGreatDoorMq
import Derived.Test.YtjbkinmdcaegcaaGreatDoorMt
set_option linter.unusedSimpArgs false
set_option linter.unusedVariables false
set_option maxRecDepth 100000
set_option maxHeartbeats 16000000
namespace Go.Proofs.YtjbkinmdcaegcaaGreatDoor
open Go.RowKit Go
def yieldL (p : GProg) (s : GState) (th : Nat) (v : GVal) : List GEvent := [genE (placeE p s th) 15 (lastF (dTh s th).frames).gen v]
theorem placeE_len {s : GState} {t : Nat} (ht : t < s.threads.length) : s.threads.getD t dThread = s.threads[t] := by simp [List.getD_eq_getElem?_getD, ht]
theorem yield_ok (p : GProg) (hp : okP p) (s : GState) (hs : okSt s) (th : Int) (v : GVal) {H : Hp} {nx : Nat} (hS : HSol H) {K : D → Hp → Nat → Prop} (h0 : yieldE p s th v ≠ 0 → K (.tup [aD (eState noS), dL true [], dI (yieldE p s th v)]) H nx)
    (h1 : yieldE p s th v = 0 → K (.tup [aD (eState (outS s th.toNat v)), dL true ((yieldL p s th.toNat v).map eEvent), dI 0]) H nx) : ICall Tryz.prog 41 [aD (eProg p), aD (eState s), dI th, aD (eVal v)] H nx K := by
  refine ICall.fresh (by kernel_rfl) fun hfr => ?_
  refine ICall.give hfr ?_
  have bad : ∀ (X : Hp) (e : Int), yieldE p s th v = e → e ≠ 0 → HSol X → (∀ i, i < nx → X i = H i) → HSol X ∧ (∀ i, i < nx → X i = H i) ∧ ∃ d', DShw X (fun i => nx ≤ i) (.tup [.agg [.d .emp, .d .emp, .d .emp, .d .emp, .d .emp, .d .emp, .d (eI 0), .d (eI 0)], .one (.d .emp), dI e]) d' ∧ K d' H nx := fun X e he hn hx hl => by
    subst he
    refine ⟨hx, hl, _, ?_, h0 hn⟩
    exact ⟨CsS.csShw (ds := eState noS) ⟨.emp, .emp, .emp, .emp, .emp, .emp, .d rfl, .d rfl, trivial⟩, ⟨_, rfl, .emp⟩, ⟨_, rfl, .d rfl⟩, trivial⟩
  refine fni_ok [0,1,2,3,4,5,7,8,9,10,11,12,13,19,24,52] [(7, [0,1,3,7,15,31,63,127,255,511,1023,511,2559,8191,16383,32767,511,66047,197119,524287,1048575,2097151,4194303,8388607], (.seg 0 (.seg 1 (.seg 2 (.seg 3 (.seg 4 (.seg 5 (.seg 6 (.seg 7 (.seg 8 (.seg 9 (.seg 10 (.seg 11 (.seg 12 (.seg 13 (.seg 14 (.seg 15 (.seg 16 (.seg 17 (.seg 18 (.seg 19 (.seg 20 (.seg 21 (.seg 22 (.seg 23 .last))))))))))))))))))))))))), (10, [0,0,0,4,15,31], (.seg 0 (.seg 1 (.seg 2 (.eff 3 [1] (.eff 4 [] (.seg 5 .last)))))))] Tryz.func41 rfl (by kernel_rfl) rfl rfl rfl rfl (by kernel_rfl) ?_
  simp [Nat.add_assoc]
  refine asked_ok p hp s hs th ?_
  by_cases q0 : askE p s th = 0
  case neg =>
    simp [q0]
    refine bad _ _ (by unfold yieldE; rw [if_pos q0]) q0 ?_ (fun i hi => ?_)
    · repeat' (first | exact hS | refine HSol.set ?_ (by simp))
    · repeat rw [Hp.set_ne _ _ (by omega)]
  obtain ⟨q1, t, rfl, ht, c2, c3⟩ := ask_zero q0
  have hd : dTh s t = s.threads[t] := by simp [dTh, List.getD_eq_getElem?_getD, ht]
  have q2 : yieldE p s t v = if fitsB s v = false then 1 else if (lastF s.threads[t].frames).gen < 0 ∨ (lastF s.threads[t].frames).at_ = 0 ∨ ((fnAt p (lastF s.threads[t].frames).fn).code.getD ((lastF s.threads[t].frames).at_ - 1).toNat dIns).op ≠ 32 then 8 else 0 := by
    unfold yieldE; rw [if_neg (by simpa using q0), Int.toNat_natCast, hd]
  simp [q0]
  refine ICall.ofPure (es := [pS false s, aD (eVal v)]) (by simp) ?_
  refine celFits_ok false s v ?_
  simp
  by_cases c4 : fitsB s v = true
  case neg =>
    rw [Bool.not_eq_true] at c4
    simp [c4]
    refine bad _ 1 (by rw [q2, if_pos c4]) (by decide) ?_ (fun i hi => ?_)
    · repeat' (first | exact hS | refine HSol.set ?_ (by simp))
    · repeat rw [Hp.set_ne _ _ (by omega)]
  rw [if_neg (by rw [c4]; decide)] at q2
  simp [c4]
  refine last_ok s t ht c3 (by have := (state_thread q1 (List.getElem_mem ht)).2; omega) ?_
  obtain ⟨m, hm⟩ : ∃ m, s.threads[t].frames.length = m + 1 := ⟨_, (Nat.succ_pred_eq_of_pos (List.length_pos_iff.2 c3)).symm⟩
  have hml : m < s.threads[t].frames.length := by omega
  have hlast : lastF s.threads[t].frames = s.threads[t].frames[m] := by simp [lastF, hm, List.getD_eq_getElem?_getD]
  have hfm : s.threads[t].frames[m]? = some (lastF s.threads[t].frames) := by rw [hlast, List.getElem?_eq_getElem hml]
  have hmem : lastF s.threads[t].frames ∈ s.threads[t].frames := by rw [hlast]; exact List.getElem_mem hml
  have hst := thread_stack (state_thread q1 (List.getElem_mem ht)).1 hml
  have hge : s.threads[t].frames.getD m dFrame = lastF s.threads[t].frames := by rw [List.getD_eq_getElem?_getD, hfm]; rfl
  obtain ⟨-, -, b3, b4, b5, b6⟩ := frame_bnd (stateQ_iff.1 q1).1 (thread_frames q1 (List.getElem_mem ht) hmem)
  have b30 := (state_thread q1 (List.getElem_mem ht)).2
  have hgens := thread_gens q1 (List.getElem_mem ht) hmem
  generalize hF : lastF s.threads[t].frames = f at *
  have hfa := fn_at b3 b4
  by_cases c5 : f.gen < 0
  · simp [c5]
    refine bad _ 8 (by rw [q2, if_pos (.inl c5)]) (by decide) ?_ (fun i hi => ?_)
    · repeat' (first | exact hS | refine HSol.set ?_ (by simp))
    · repeat rw [Hp.set_ne _ _ (by omega)]
  by_cases c6 : f.at_ = 0
  · simp [c5, c6]
    refine bad _ 8 (by rw [q2, if_pos (.inr (.inl c6))]) (by decide) ?_ (fun i hi => ?_)
    · repeat' (first | exact hS | refine HSol.set ?_ (by simp))
    · repeat rw [Hp.set_ne _ _ (by omega)]
  have hcl := (large_lt (check_zero (stateQ_iff.1 q1).1).1).2.2.2 _ (fnAt_in b3 b4)
  obtain ⟨j, hj⟩ : ∃ j : Nat, f.at_ = j + 1 := ⟨(f.at_ - 1).toNat, by omega⟩
  have hw : IntKind.i64.wrap (j : Int) = j := wrap_id (by omega) (by omega)
  have hjn : (f.at_ - 1).toNat = j := by omega
  have hjl : j < (fnAt p f.fn).code.length := by omega
  have hco : (fnAt p f.fn).code[j]? = some ((fnAt p f.fn).code.getD j dIns) := by
    rw [List.getD_eq_getElem?_getD, List.getElem?_eq_getElem hjl]; rfl
  rw [hjn] at q2
  have r9 : ¬ (j : Int) + 1 = 0 := by omega
  have r10 : ¬ nx = nx + 4 := by omega
  have r11 : ¬ nx + 4 = nx := by omega
  generalize hins : (fnAt p f.fn).code.getD j dIns = ins at *
  have c5' : 0 ≤ f.gen := by omega
  by_cases c7 : ins.op = 32
  case neg =>
    have q3 : yieldE p s t v = 8 := by rw [q2, if_pos (.inr (.inr c7))]
    generalize fnAt p f.fn = fq at *
    simp [c5, hj, b3, hfa, hw, hco, c7, r9, r10, r11]
    refine bad _ 8 q3 (by decide) ?_ (fun i hi => ?_)
    · repeat' (first | exact hS | refine HSol.set ?_ (by simp))
    · repeat rw [Hp.set_ne _ _ (by omega)]
  have q3 : yieldE p s t v = 0 := by rw [q2, if_neg (by omega)]
  have h2 := h1 q3
  clear bad h0 h1 q2
  obtain ⟨k1, k2, k3, k4⟩ := stack_gen hst (by rw [hge]; exact c5')
  generalize hfq : fnAt p f.fn = fq at *
  simp [c5, hj, b3, hfa, hw, hco, c7, r9, r10, r11]
  refine copyO_ic s (sized_of q1) ?_ (fun H1 A n1 hn1 low1 high1 sol1 hO => ?_)
  · repeat' (first | exact hS | refine HSol.set ?_ (by simp))
  have g0 : H1 nx = some ⟨.c 26, 3, [(eProg p).map .d]⟩ := by rw [low1 _ (by omega)]; simp [Hp.set]
  have g1 : H1 (nx + 1) = some ⟨.c 32, 8, [(eState s).map .d]⟩ := by rw [low1 _ (by omega)]; simp [Hp.set]
  have g2 : H1 (nx + 2) = some ⟨.c 50, 2, [[.d (eI v.kind), .d (eI v.n)]]⟩ := by rw [low1 _ (by omega)]; simp [Hp.set]
  have g3 : H1 (nx + 3) = some ⟨.c 32, 8, [[.d .emp, .d .emp, .d .emp, .d .emp, .d .emp, .d .emp, .d (eI 0), .d (eI 0)]]⟩ := by rw [low1 _ (by omega)]; simp [Hp.set]
  have low2 : ∀ i, i < nx → H1 i = H i := fun i hi => by
    rw [low1 _ (by omega)]
    repeat rw [Hp.set_ne _ _ (by omega)]
  clear low1
  rw [oRow]
  simp [g0, g1, g2]
  have hn5 : ∀ x, Live s x → A x ≠ nx + 1 := fun x hx => by have := hO.lo x hx; omega
  have hMs : H1.set (nx + 1) (some ⟨.c 32, 8, [oRow A s]⟩) (nx + 1) = some ⟨.c 32, 8, [oRow A s]⟩ := Hp.set_same _ _ _
  have hMp : H1.set (nx + 1) (some ⟨.c 32, 8, [oRow A s]⟩) nx = some ⟨.c 26, 3, [(eProg p).map .d]⟩ := by rw [Hp.set_ne _ _ (by omega)]; exact g0
  have hMr : H1.set (nx + 1) (some ⟨.c 32, 8, [oRow A s]⟩) (nx + 3) = some ⟨.c 32, 8, [[.d .emp, .d .emp, .d .emp, .d .emp, .d .emp, .d .emp, .d (eI 0), .d (eI 0)]]⟩ := by rw [Hp.set_ne _ _ (by omega)]; exact g3
  have hMl : ∀ i, i < nx → H1.set (nx + 1) (some ⟨.c 32, 8, [oRow A s]⟩) i = H i := fun i hi => by rw [Hp.set_ne _ _ (by omega)]; exact low2 i hi
  have hMo : HSol (H1.set (nx + 1) (some ⟨.c 32, 8, [oRow A s]⟩)) := sol1.set (by simp [oRow])
  have O2 := hO.set_low (some ⟨.c 32, 8, [oRow A s]⟩) hn5
  rw [show ([C.own (A Ad.c) 4 s.cells.length, C.own (A Ad.sh) 2 s.shapes.length, C.own (A Ad.tx) 1 s.texts.length, C.own (A Ad.t) 5 s.threads.length, C.own (A Ad.en) 3 s.ends.length, C.own (A Ad.sa) 2 s.said.length, C.d (eI s.asked), C.d (eI s.steps)] : List C) = oRow A s from rfl]
  generalize H1.set (nx + 1) (some ⟨.c 32, 8, [oRow A s]⟩) = M at *
  refine ⟨[.one (.d (.at_ true (eProg p))), .one (.d (.at_ true (eState s))), dI t], ⟨⟨_, rfl, CsS.at_ hMp trivial (CsS.dat (by simp))⟩, ⟨_, rfl, CsS.at_ hMs trivial (O2.shw fun x hx => trivial)⟩, ⟨_, rfl, .d rfl⟩, trivial⟩, ?_⟩
  have hdt : s.threads.getD t dThread = s.threads[t] := placeE_len ht
  refine unwAtD_ok p s t ht (by have := (sized_of q1).threads; omega) (by rw [hdt]; exact c3) (by rw [hdt]; omega) (by rw [hdt, hF]; exact b3) (by rw [hdt, hF]; exact b4) (by rw [hdt, hF]; exact b5) (by rw [hdt, hF, hfq]; exact b6) ?_
  simp
  obtain ⟨g, hg⟩ : ∃ g : Nat, f.gen = g := ⟨f.gen.toNat, by omega⟩
  have hto : ∀ h : m - 1 < s.threads[t].frames.length, f.to < s.threads[t].frames[m - 1].regs.length := fun h => by
    unfold stackB at hst
    simp only [Bool.and_eq_true, decide_eq_true_eq] at hst
    have := hst.1.2
    rw [if_neg (by omega), hge, List.getD_eq_getElem?_getD, List.getElem?_eq_getElem h] at this
    exact this
  refine genOut_ok t v (placeE p s t) hMo O2 hMs hn5 ht hm k2 b30 hfm hg (by have := hgens c5'; omega) hto (by omega) (fun H5 nx5 A' eo hn5' low5 high5 sol5 O5 hrow hnS heo heo2 hev => ?_)
  have h5s : H5 (nx + 1) = some ⟨.c 32, 8, [oRow A s]⟩ := by rw [low5 _ (by omega) (fun x hx => (hn5 x hx).symm)]; exact hMs
  have h5r : H5 (nx + 3) = some ⟨.c 32, 8, [[.d .emp, .d .emp, .d .emp, .d .emp, .d .emp, .d .emp, .d (eI 0), .d (eI 0)]]⟩ := by rw [low5 _ (by omega) (fun x hx => by have := hO.lo x hx; omega)]; exact hMr
  rw [oRow] at h5s
  simp [h5s, h5r]
  have hlo5 := O5.lo
  have O6 := O5.set_low (n := nx + 3) (some ⟨.c 32, 8, [oRow A s]⟩) fun x hx => by have := hlo5 x hx; omega
  have hsh : CsS (H5.set (nx + 3) (some ⟨.c 32, 8, [oRow A s]⟩)) (fun i => nx ≤ i) (oRow A s) (eState (outS s t v)) := by
    have := O6.shw (N := fun i => nx ≤ i) fun x hx => by have := hlo5 x hx; omega
    rwa [hrow] at this
  have hX : HSol (H5.set (nx + 3) (some ⟨.c 32, 8, [oRow A s]⟩)) := sol5.set (by simp [oRow])
  have hyl : yieldL p s t v = [genE (placeE p s t) 15 g v] := by simp [yieldL, hd, hF, hg]
  rw [Int.toNat_natCast, hyl] at h2
  have hev1 : H5.set (nx + 3) (some ⟨.c 32, 8, [oRow A s]⟩) eo = some ⟨.c 76, 12, [evRow (genE (placeE p s t) 15 g v)]⟩ := by rw [Hp.set_ne _ _ (by omega)]; exact hev
  refine ⟨hX, fun i hi => ?_, .tup [aD (eState (outS s t v)), dL true ([genE (placeE p s t) 15 g v].map eEvent), dI 0], ⟨CsS.csShw hsh, ⟨_, rfl, Shw.row (by omega) hev1 rfl rfl rfl (by simp) (by simp)⟩, ⟨_, rfl, .d rfl⟩, trivial⟩, h2⟩
  rw [if_neg (by omega), low5 i (by omega) (fun x hx => by have := hO.lo x hx; omega)]; exact hMl i hi

theorem DPure.ofI {P : Program} {f : FuncId} {ds : List D} {K : D → List Blk → Prop} (h : ICall P f ds Hp.none 0 fun d H' _ => ∃ d', DShw H' (fun _ => True) d d' ∧ K d' []) : DPure P f ds K :=
  ⟨h.1, fun F w vs hF hgl hvs => by
    have hg : Base.good ⟨w, fun _ => False, F, fun _ => none⟩ := ⟨hgl, hF, fun _ _ h => h⟩
    have hH : HpOk ⟨w, fun _ => False, F, fun _ => none⟩ F w (fun _ => none) Hp.none 0 := ⟨Nat.le_refl _, fun _ _ _ => rfl, hF, fun _ hb => .inl hb, fun _ hb => hb, (fun n x hx => by cases hx), fun n b cap hn => absurd rfl hn, fun n m b c c' hn => absurd rfl hn, fun _ _ => rfl, (fun n x hx => by cases hx), SameIo.refl w⟩
    have hv : RVs ⟨F, Base.B ⟨w, fun _ => False, F, fun _ => none⟩⟩ w (fun _ => none) ds vs := RVs.keep (show Env.le ⟨F, fun b => b < w.heap.size⟩ ⟨F, Base.B ⟨w, fun _ => False, F, fun _ => none⟩⟩ w w from ⟨fun _ h => h, fun _ hb => ⟨hb, fun h => h⟩, fun _ _ => rfl, fun _ _ => rfl⟩) (Nms.le_refl _) hvs
    refine (h.2 _ F _ w vs hg hH hv).mono fun _ w' ⟨F', ι', H', nx', d, v, e1, e2, e3, e4, e5, d', e6, e7⟩ => ?_
    refine ⟨giv F' ι' H' (fun _ => True), fun _ => none, d', [], v, e1, ⟨e2.size, fun b hb => e2.keep b hb (fun h => h), fun b hb => .inl (e3.F b hb), fun b hb => ?_, (fun i x hx => by simp at hx), fun i b cap hi => by simp at hi, fun i j b c c' hi => by simp at hi, fun _ _ => rfl, DShw.rv e2.blk e6 e5, e2.io⟩, e7⟩
    rcases hb with hb | ⟨n, cap, -, g1, g2, g3⟩
    · exact ⟨(e2.Fof b hb).imp id fun h => h.resolve_left fun h => h, e2.Flt b hb⟩
    · obtain ⟨s1, s2, s3⟩ := e2.own n b cap g1 g2 g3
      exact ⟨.inr (s3.resolve_left fun h => h), s1⟩⟩
theorem HSol.nil : HSol (fun _ => Option.none) := fun n x hx => by cases hx
theorem regSet_ok (s : GState) (hz : Sized s) (th : Nat) (hth : th < s.threads.length) (reg : Int) (v : GVal) (hreg : 0 ≤ reg → ∃ k, ∃ hk : k < s.threads[th].frames.length, s.threads[th].frames.length = k + 1 ∧ reg < s.threads[th].frames[k].regs.length) (hl : s.threads[th].frames.length ≤ 1000) {K : D → List Blk → Prop}
    (h : K (aD (eState (s.setT th (intoT s.threads[th] reg v)))) []) : DPure Tryz.prog 95 [aD (eState s), dI th, dI reg, aD (eVal v)] K := by
  refine DPure.ofI ?_
  refine fni_ok [0,1,2,3,4,7,8,9,11] [(5, [0,0,2,6,15,31,63,0,0,511,1023], (.seg 0 (.seg 1 (.seg 2 (.seg 3 (.seg 4 (.seg 5 (.seg 6 (.seg 7 (.seg 8 (.seg 9 (.eff 10 [] .last))))))))))))] Tryz.func95 rfl (by kernel_rfl) rfl rfl rfl rfl (by kernel_rfl) ?_
  simp
  by_cases c0 : reg < 0
  · have e : s.setT th (intoT s.threads[th] reg v) = s := by rw [intoT, if_neg (by omega), setT_same hth]
    rw [e] at h
    simp [c0]
    refine ⟨?_, aD (eState s), CsS.csShw (CsS.dat (l := eState s) (by simp)), h⟩
    repeat' (first | exact HSol.nil | exact HSol.zero | refine HSol.set ?_ ?_ | (simp; done))
  simp [c0]
  refine copiedO_ic s hz ?_ (fun H1 A n1 hn1 low1 high1 sol1 hO => ?_)
  · repeat' (first | exact HSol.nil | exact HSol.zero | refine HSol.set ?_ ?_ | (simp; done))
  have g0 : H1 0 = some ⟨.c 32, 8, [(eState s).map .d]⟩ := by rw [low1 _ (by omega)]; simp [Hp.set]
  have g1 : H1 1 = some ⟨.c 50, 2, [[.d (eI v.kind), .d (eI v.n)]]⟩ := by rw [low1 _ (by omega)]; simp [Hp.set]
  have g2 : H1 2 = some ⟨.c 32, 8, [[.d .emp, .d .emp, .d .emp, .d .emp, .d .emp, .d .emp, .d (eI 0), .d (eI 0)]]⟩ := by rw [low1 _ (by omega)]; simp [Hp.set]
  clear low1
  have hn0 : ∀ x, Live s x → A x ≠ 0 := fun x hx => by have := hO.lo x hx; omega
  have O1 := hO.set_low (some ⟨.c 32, 8, [oRow A s]⟩) hn0
  obtain ⟨k, hk, hkl, hr⟩ := hreg (by omega)
  obtain ⟨q, rfl⟩ : ∃ q : Nat, reg = q := ⟨reg.toNat, by omega⟩
  have hq : q < s.threads[th].frames[k].regs.length := by omega
  obtain ⟨R, r1, r2, r3⟩ := hO.th
  obtain ⟨r4, r5⟩ := List.getElem?_eq_some_iff.1 (r3 th hth)
  rw [oTh, thR, hkl] at r5
  obtain ⟨FR, f1, f2, f3⟩ := (hO.tf th hth).blk
  obtain ⟨f4, f5⟩ := List.getElem?_eq_some_iff.1 (f3 k hk)
  rw [frRow] at f5
  obtain ⟨ys, y1⟩ := (hO.tf th hth).regs k hk
  rw [valBlk] at y1
  have y2 := vrow_get (ys := ys) hq
  have y3 := vrow_set (ys := ys) hq v
  have e1 := hn0 .t trivial
  have e2 := hn0 (.tf th) hth
  have e3 := hn0 (.tr th k) (live_tr hth hk)
  have m1 := hO.lo .t trivial
  have m2 := hO.lo (.tf th) hth
  have m3 := hO.lo (.tr th k) (live_tr hth hk)
  have e4 : ¬ 0 = A (.tr th k) := by omega
  have e5 : ¬ 1 = A (.tr th k) := by omega
  have e6 : ¬ 2 = A (.tr th k) := by omega
  have hw : IntKind.i64.wrap (k : Int) = k := wrap_id (by omega) (by omega)
  generalize hL : ((s.threads[th].frames[k].regs ++ ys).map fun v => (eVal v).map C.d) = L at *
  obtain ⟨y4, y5⟩ := List.getElem?_eq_some_iff.1 y2
  have hT : intoT s.threads[th] q v = s.threads[th].setF k (s.threads[th].frames[k].withR (s.threads[th].frames[k].regs.set q v)) := by
    have : s.threads[th].frames.length - 1 = k := by omega
    rw [intoT, if_pos (by omega), this]
    simp [List.getD_eq_getElem?_getD, hk]
  have O2 := O1.tReg hth hk (s.threads[th].frames[k].regs.set q v) ys (by simp) (b := ⟨.c 50, 2, L.set q [.d (eI v.kind), .d (eI v.n)]⟩) (by rw [y3]; rfl)
  rw [oRow] at O2
  have O3 := O2.set_low (n := 2) (some ⟨.c 32, 8, [oRow A s]⟩) fun x hx => by have := O2.lo x hx; omega
  rw [oRow]
  simp [g0, g1, g2, r1, r4, r5, f1, f4, f5, y1, y4, y5, e1, e2, e3, e4, e5, e6, hw, hq, hth]
  intro _
  have sol2 : HSol (((H1.set 0 (some ⟨.c 32, 8, [oRow A s]⟩)).set (A (.tr th k)) (some ⟨.c 50, 2, L.set q [C.d (eI v.kind), C.d (eI v.n)]⟩)).set 2 (some ⟨.c 32, 8, [oRow A s]⟩)) := by
    refine HSol.set (HSol.set (HSol.set sol1 (by simp [oRow])) ?_) (by simp [oRow])
    rw [y3]; exact (valBlk_new _).sol
  rw [← hT] at O3
  refine ⟨sol2, aD (eState (s.setT th (intoT s.threads[th] q v))), ?_, h⟩
  have := O3.shw (N := fun _ => True) fun _ _ => trivial
  rw [show oRow A (s.setT th (intoT s.threads[th] q v)) = oRow A s by simp [oRow, GState.setT]] at this
  exact CsS.csShw this
end Go.Proofs.YtjbkinmdcaegcaaGreatDoor
