/- Several texts in one. -/
import Derived.Test.YtjbkinmdcaegcaaGreatDoorMq
import Derived.Test.YtjbkinmdcaegcaaGreatDoorMt
set_option linter.unusedSimpArgs false
set_option linter.unusedVariables false
set_option maxRecDepth 100000
set_option maxHeartbeats 16000000
namespace Go.Proofs.YtjbkinmdcaegcaaGreatDoor
open Go.RowKit Go
theorem placeE_len {s : GState} {t : Nat} (ht : t < s.threads.length) : s.threads.getD t dThread = s.threads[t] := by simp [List.getD_eq_getElem?_getD, ht]
theorem names_gen {s : GState} {g : GVal} : namesB s g 5 = (decide (g.kind = 5) && (fitsB s g && decide ((cellAt s g.n).kind = 5))) := by
  unfold namesB fitsB
  by_cases h : g.kind = 5
  · simp only [h, rightB]
    simp
    by_cases h0 : 0 ≤ g.n <;> by_cases h1 : g.n < s.cells.length <;> by_cases h2 : (cellAt s g.n).kind = 5 <;> simp [h0, h1, h2]
  · simp [h]
theorem goOk_of {p : GProg} {s : GState} (h : stateQ wordsT p s = 0) {f : GFrame} (hs : savedB p s f = true) : GoOk p f := by
  simp only [savedB, Bool.and_eq_true, Bool.or_eq_true, decide_eq_true_eq] at hs
  obtain ⟨⟨⟨⟨h1, h2⟩, h3⟩, h4⟩, h5⟩ := hs
  obtain ⟨a1, a2, a3, a4, a5⟩ := frame_fn h1
  have hp := (stateQ_iff.1 h).1
  have hc := large_lt (check_zero hp).1
  have hm := fnAt_in a1 a2
  refine ⟨a1, a2, by have := hc.1; omega, a4, by omega, by have := (hc.2.2.2 _ hm).1; omega, fun h0 => ?_⟩
  have h6 : ((fnAt p f.fn).code.getD (f.at_ - 1).toNat dIns).op = 32 := by omega
  have hl : (f.at_ - 1).toNat < (fnAt p f.fn).code.length := by omega
  have e : (fnAt p f.fn).code.getD (f.at_ - 1).toNat dIns = (fnAt p f.fn).code[(f.at_ - 1).toNat] := by rw [List.getD_eq_getElem?_getD, List.getElem?_eq_getElem hl]; rfl
  rw [e] at h6 ⊢
  have := yield_reg hp hm hl h6
  omega
theorem Shw.solid {H : Hp} {N : Nat → Prop} {c : C} {d : Dt} (h : Shw H N c d) : C.solidC c = true := by
  cases h with
  | d h => exact h
  | emp => rfl
  | own X hn hx hk h1 h2 h3 h4 h5 => rfl
  | ptr X hn hx hk h4 h5 => rfl
theorem resume_ok (p : GProg) (hp : okP p) (s : GState) (hs : okSt s) (th : Int) (g v : GVal) (to_ : Int) {H : Hp} {nx : Nat} (hS : HSol H) {K : D → Hp → Nat → Prop} (h0 : resE p s th g v to_ ≠ 0 → K (.tup [aD (eState noS), dL true [], dI (resE p s th g v to_)]) H nx)
    (h1 : resE p s th g v to_ = 0 → K (.tup [aD (eState (goS p s th.toNat g.n.toNat v to_)), dL true ((goL s g.n.toNat v (placeE p s th.toNat)).map eEvent), dI 0]) H nx) : ICall Tryz.prog 44 [aD (eProg p), aD (eState s), dI th, aD (eVal g), aD (eVal v), dI to_] H nx K := by
  refine ICall.fresh (by kernel_rfl) fun hfr => ?_
  refine ICall.give hfr ?_
  have bad : ∀ (X : Hp) (e : Int), resE p s th g v to_ = e → e ≠ 0 → HSol X → (∀ i, i < nx → X i = H i) → HSol X ∧ (∀ i, i < nx → X i = H i) ∧ ∃ d', DShw X (fun i => nx ≤ i) (.tup [.agg [.d .emp, .d .emp, .d .emp, .d .emp, .d .emp, .d .emp, .d (eI 0), .d (eI 0)], .one (.d .emp), dI e]) d' ∧ K d' H nx := fun X e he hn hx hl => by
    subst he
    refine ⟨hx, hl, _, ?_, h0 hn⟩
    exact ⟨CsS.csShw (ds := eState noS) ⟨.emp, .emp, .emp, .emp, .emp, .emp, .d rfl, .d rfl, trivial⟩, ⟨_, rfl, .emp⟩, ⟨_, rfl, .d rfl⟩, trivial⟩
  refine fni_ok [0,1,2,3,4,5,6,7,9,10,12,13,14,15,16,17,23,26,44,64,88] [(11, [0,0,2,0,0,0,32,127,255,511,511,1023,4095], (.seg 0 (.seg 1 (.seg 2 (.seg 3 (.seg 4 (.seg 5 (.eff 6 [1, 2, 3] (.eff 7 [] (.seg 8 (.seg 9 (.seg 10 (.seg 11 (.seg 12 .last))))))))))))))] Tryz.func44 rfl (by kernel_rfl) rfl rfl rfl rfl (by kernel_rfl) ?_
  simp [Nat.add_assoc]
  refine asked_ok p hp s hs th ?_
  by_cases q0 : askE p s th = 0
  case neg =>
    simp [q0]
    refine bad _ _ (by unfold resE; rw [if_pos q0]) q0 ?_ (fun i hi => ?_)
    · repeat' (first | exact hS | refine HSol.set ?_ (by simp))
    · repeat rw [Hp.set_ne _ _ (by omega)]
  obtain ⟨q1, t, rfl, ht, c2, c3⟩ := ask_zero q0
  have hd : dTh s t = s.threads[t] := by simp [dTh, List.getD_eq_getElem?_getD, ht]
  have q2 : resE p s t g v to_ = if fitsB s v = false ∨ to_ < -1 ∨ ((lastF s.threads[t].frames).regs.length : Int) ≤ to_ then 1 else if namesB s g 5 = false then 7 else if (dGC s g.n.toNat).num = 1 then 8 else if deepB s t g.n.toNat = true then 2 else 0 := by
    unfold resE; rw [if_neg (by simpa using q0), Int.toNat_natCast, hd]
  have b30 := (state_thread q1 (List.getElem_mem ht)).2
  simp [q0]
  refine ICall.ofPure (es := [pS false s, aD (eVal v)]) (by simp) ?_
  refine celFits_ok false s v ?_
  simp
  by_cases c4 : fitsB s v = true
  case neg =>
    rw [Bool.not_eq_true] at c4
    simp [c4]
    refine bad _ 1 (by rw [q2, if_pos (.inl c4)]) (by decide) ?_ (fun i hi => ?_)
    · repeat' (first | exact hS | refine HSol.set ?_ (by simp))
    · repeat rw [Hp.set_ne _ _ (by omega)]
  by_cases c5 : to_ < -1
  · simp [c4, show ¬ -1 ≤ to_ by omega]
    refine bad _ 1 (by rw [q2, if_pos (.inr (.inl c5))]) (by decide) ?_ (fun i hi => ?_)
    · repeat' (first | exact hS | refine HSol.set ?_ (by simp))
    · repeat rw [Hp.set_ne _ _ (by omega)]
  obtain ⟨m, hm⟩ : ∃ m, s.threads[t].frames.length = m + 1 := ⟨_, (Nat.succ_pred_eq_of_pos (List.length_pos_iff.2 c3)).symm⟩
  have hml : m < s.threads[t].frames.length := by omega
  have hlast : lastF s.threads[t].frames = s.threads[t].frames[m] := by simp [lastF, hm, List.getD_eq_getElem?_getD]
  have hfm : s.threads[t].frames[m]? = some (lastF s.threads[t].frames) := by rw [hlast, List.getElem?_eq_getElem hml]
  have hmem : lastF s.threads[t].frames ∈ s.threads[t].frames := by rw [hlast]; exact List.getElem_mem hml
  obtain ⟨b1, -, b3, b4, b5, b6⟩ := frame_bnd (stateQ_iff.1 q1).1 (thread_frames q1 (List.getElem_mem ht) hmem)
  have c5' : -1 ≤ to_ := by omega
  simp [c4, c5']
  refine last_ok s t ht c3 (by omega) ?_
  by_cases c6 : ((lastF s.threads[t].frames).regs.length : Int) ≤ to_
  · simp [c6]
    intro _
    refine bad _ 1 (by rw [q2, if_pos (.inr (.inr c6))]) (by decide) ?_ (fun i hi => ?_)
    · repeat' (first | exact hS | refine HSol.set ?_ (by simp))
    · repeat rw [Hp.set_ne _ _ (by omega)]
  rw [if_neg (by rw [c4]; simp; omega)] at q2
  obtain ⟨gk, gn⟩ := g
  simp only at q2 h0 h1
  by_cases c7 : gk = 5
  case neg =>
    simp [c6, c7]
    intro _
    refine bad _ 7 (by rw [q2, if_pos (by rw [names_gen]; simp [c7])]) (by decide) ?_ (fun i hi => ?_)
    · repeat' (first | exact hS | refine HSol.set ?_ (by simp))
    · repeat rw [Hp.set_ne _ _ (by omega)]
  subst c7
  simp [c6]
  intro _
  refine ICall.ofPure (es := [pS false s, aD (eVal ⟨5, gn⟩)]) (by simp) ?_
  refine celFits_ok false s ⟨5, gn⟩ ?_
  simp
  by_cases c8 : fitsB s ⟨5, gn⟩ = true
  case neg =>
    rw [Bool.not_eq_true] at c8
    simp [c8]
    refine bad _ 7 (by rw [q2, if_pos (by rw [names_gen, c8]; simp)]) (by decide) ?_ (fun i hi => ?_)
    · repeat' (first | exact hS | refine HSol.set ?_ (by simp))
    · repeat rw [Hp.set_ne _ _ (by omega)]
  have hgn : 0 ≤ gn ∧ gn < s.cells.length := by
    simp only [fitsB, rightB] at c8
    simp at c8
    omega
  obtain ⟨n, rfl⟩ : ∃ n : Nat, gn = n := ⟨gn.toNat, by omega⟩
  have hn : n < s.cells.length := by omega
  have hcn := at_nat (s := s) hn
  rw [Int.toNat_natCast] at q2
  have hdc : dGC s n = s.cells[n] := by simp [dGC, List.getD_eq_getElem?_getD, hn]
  rw [hdc] at q2
  by_cases c9 : s.cells[n].kind = 5
  case neg =>
    simp [c8, hn, c9]
    refine bad _ 7 (by rw [q2, if_pos (by rw [names_gen, hcn]; simp [c9])]) (by decide) ?_ (fun i hi => ?_)
    · repeat' (first | exact hS | refine HSol.set ?_ (by simp))
    · repeat rw [Hp.set_ne _ _ (by omega)]
  rw [if_neg (by rw [names_gen, hcn, c8]; simp [c9])] at q2
  by_cases c10 : s.cells[n].num = 1
  · simp [c8, hn, c9, c10]
    refine bad _ 8 (by rw [q2, if_pos c10]) (by decide) ?_ (fun i hi => ?_)
    · repeat' (first | exact hS | refine HSol.set ?_ (by simp))
    · repeat rw [Hp.set_ne _ _ (by omega)]
  rw [if_neg c10] at q2
  simp [c8, hn, c9, c10]
  refine copyO_ic s (sized_of q1) ?_ (fun H1 A n1 hn1 low1 high1 sol1 hO => ?_)
  · repeat' (first | exact hS | refine HSol.set ?_ (by simp))
  have g0 : H1 nx = some ⟨.c 26, 3, [(eProg p).map .d]⟩ := by rw [low1 _ (by omega)]; simp [Hp.set]
  have g1 : H1 (nx + 1) = some ⟨.c 32, 8, [(eState s).map .d]⟩ := by rw [low1 _ (by omega)]; simp [Hp.set]
  have g2 : H1 (nx + 2) = some ⟨.c 50, 2, [[.d (eI 5), .d (eI n)]]⟩ := by rw [low1 _ (by omega)]; simp [Hp.set]
  have g2' : H1 (nx + 3) = some ⟨.c 50, 2, [[.d (eI v.kind), .d (eI v.n)]]⟩ := by rw [low1 _ (by omega)]; simp [Hp.set]
  have g3 : H1 (nx + 4) = some ⟨.c 32, 8, [[.d .emp, .d .emp, .d .emp, .d .emp, .d .emp, .d .emp, .d (eI 0), .d (eI 0)]]⟩ := by rw [low1 _ (by omega)]; simp [Hp.set]
  have low2 : ∀ i, i < nx → H1 i = H i := fun i hi => by
    rw [low1 _ (by omega)]
    repeat rw [Hp.set_ne _ _ (by omega)]
  clear low1
  rw [oRow]
  simp [g0, g1, g2, g2']
  have hn5 : ∀ x, Live s x → A x ≠ nx + 1 := fun x hx => by have := hO.lo x hx; omega
  have hn6 : ∀ x, Live s x → A x ≠ nx := fun x hx => by have := hO.lo x hx; omega
  have hMs : H1.set (nx + 1) (some ⟨.c 32, 8, [oRow A s]⟩) (nx + 1) = some ⟨.c 32, 8, [oRow A s]⟩ := Hp.set_same _ _ _
  have hMp : H1.set (nx + 1) (some ⟨.c 32, 8, [oRow A s]⟩) nx = some ⟨.c 26, 3, [(eProg p).map .d]⟩ := by rw [Hp.set_ne _ _ (by omega)]; exact g0
  have hMr : H1.set (nx + 1) (some ⟨.c 32, 8, [oRow A s]⟩) (nx + 4) = some ⟨.c 32, 8, [[.d .emp, .d .emp, .d .emp, .d .emp, .d .emp, .d .emp, .d (eI 0), .d (eI 0)]]⟩ := by rw [Hp.set_ne _ _ (by omega)]; exact g3
  have hMl : ∀ i, i < nx → H1.set (nx + 1) (some ⟨.c 32, 8, [oRow A s]⟩) i = H i := fun i hi => by rw [Hp.set_ne _ _ (by omega)]; exact low2 i hi
  have hMo : HSol (H1.set (nx + 1) (some ⟨.c 32, 8, [oRow A s]⟩)) := sol1.set (by simp [oRow])
  have O2 := hO.set_low (some ⟨.c 32, 8, [oRow A s]⟩) hn5
  rw [show ([C.own (A Ad.c) 4 s.cells.length, C.own (A Ad.sh) 2 s.shapes.length, C.own (A Ad.tx) 1 s.texts.length, C.own (A Ad.t) 5 s.threads.length, C.own (A Ad.en) 3 s.ends.length, C.own (A Ad.sa) 2 s.said.length, C.d (eI s.asked), C.d (eI s.steps)] : List C) = oRow A s from rfl]
  generalize H1.set (nx + 1) (some ⟨.c 32, 8, [oRow A s]⟩) = M at *
  refine ⟨[.one (.d (.at_ true (eProg p))), .one (.d (.at_ true (eState s))), dI t], ⟨⟨_, rfl, CsS.at_ hMp trivial (CsS.dat (by simp))⟩, ⟨_, rfl, CsS.at_ hMs trivial (O2.shw fun x hx => trivial)⟩, ⟨_, rfl, .d rfl⟩, trivial⟩, ?_⟩
  have hdt : s.threads.getD t dThread = s.threads[t] := placeE_len ht
  refine unwAtD_ok p s t ht (by have := (sized_of q1).threads; omega) (by rw [hdt]; exact c3) (by rw [hdt]; omega) (by rw [hdt]; exact b3) (by rw [hdt]; exact b4) (by rw [hdt]; exact b5) (by rw [hdt]; exact b6) ?_
  simp
  obtain ⟨w1, w2, w3, w4⟩ := waits_of q1 hn c9
  refine genGo_ok p t n v to_ (placeE p s t) hMo O2 hMp hn6 hMs hn5 ht hn b30 (fun _ => ⟨m, hml, hm, by rw [← hlast]; omega⟩) (fun h2 => ?_) (by omega) (fun hdp H5 nx5 hn5' low5 sol5 => ?_) (fun hdp H5 nx5 A' c hn5' low5 high5 sol5 O5 hrow hnS hev => ?_)
  · obtain ⟨f, y1, y2⟩ := w4 (by omega)
    exact ⟨f, y1, goOk_of q1 y2⟩
  · rw [if_pos hdp] at q2
    have h5r : H5 (nx + 4) = some ⟨.c 32, 8, [[.d .emp, .d .emp, .d .emp, .d .emp, .d .emp, .d .emp, .d (eI 0), .d (eI 0)]]⟩ := by rw [low5 _ (by omega)]; exact hMr
    simp [h5r]
    refine bad _ 2 q2 (by decide) ?_ (fun i hi => ?_)
    · refine HSol.set sol5 (by simp)
    · rw [Hp.set_ne _ _ (by omega), low5 _ (by omega)]; exact hMl i hi
  · rw [if_neg (by rw [hdp]; decide)] at q2
    have h2 := h1 q2
    have h5s : H5 (nx + 1) = some ⟨.c 32, 8, [oRow A s]⟩ := by rw [low5 _ (by omega) (fun x hx => (hn5 x hx).symm)]; exact hMs
    have h5r : H5 (nx + 4) = some ⟨.c 32, 8, [[.d .emp, .d .emp, .d .emp, .d .emp, .d .emp, .d .emp, .d (eI 0), .d (eI 0)]]⟩ := by rw [low5 _ (by omega) (fun x hx => by have := hO.lo x hx; omega)]; exact hMr
    rw [oRow] at h5s
    simp [h5s, h5r]
    have hlo5 := O5.lo
    have O6 := O5.set_low (n := nx + 4) (some ⟨.c 32, 8, [oRow A s]⟩) fun x hx => by have := hlo5 x hx; omega
    have hsh : CsS (H5.set (nx + 4) (some ⟨.c 32, 8, [oRow A s]⟩)) (fun i => nx ≤ i) (oRow A s) (eState (goS p s t n v to_)) := by
      have := O6.shw (N := fun i => nx ≤ i) fun x hx => by have := hlo5 x hx; omega
      rwa [hrow] at this
    have hX : HSol (H5.set (nx + 4) (some ⟨.c 32, 8, [oRow A s]⟩)) := sol5.set (by simp [oRow])
    rw [Int.toNat_natCast, Int.toNat_natCast] at h2
    have hev1 : Shw (H5.set (nx + 4) (some ⟨.c 32, 8, [oRow A s]⟩)) (fun i => nx ≤ i) c (.sl true ((goL s n v (placeE p s t)).map eEvent)) := hev.mono fun q hq => ⟨by omega, fun x hx => by rw [Hp.set_ne _ _ (by omega)]; exact hx⟩
    refine ⟨hev1.solid, hX, fun i hi => ?_, .tup [aD (eState (goS p s t n v to_)), dL true ((goL s n v (placeE p s t)).map eEvent), dI 0], ⟨CsS.csShw hsh, ⟨_, rfl, hev1⟩, ⟨_, rfl, .d rfl⟩, trivial⟩, h2⟩
    rw [if_neg (by omega), low5 i (by omega) (fun x hx => by have := hO.lo x hx; omega)]; exact hMl i hi
theorem DPure.ofI {P : Program} {f : FuncId} {ds : List D} {K : D → List Blk → Prop} (h : ICall P f ds Hp.none 0 fun d H' _ => ∃ d', DShw H' (fun _ => True) d d' ∧ K d' []) : DPure P f ds K :=
  ⟨h.1, fun F w vs hF hgl hvs => by
    have hg : Base.good ⟨w, fun _ => False, F, fun _ => none⟩ := ⟨hgl, hF, fun _ _ h => h⟩
    have hH : HpOk ⟨w, fun _ => False, F, fun _ => none⟩ F w (fun _ => none) Hp.none 0 := ⟨Nat.le_refl _, fun _ _ _ => rfl, hF, fun _ hb => .inl hb, fun _ hb => hb, (fun n x hx => by cases hx), fun n b cap hn => absurd rfl hn, fun n m b c c' hn => absurd rfl hn, fun _ _ => rfl, (fun n x hx => by cases hx), SameIo.refl w⟩
    have hv : RVs ⟨F, Base.B ⟨w, fun _ => False, F, fun _ => none⟩⟩ w (fun _ => none) ds vs := RVs.keep (show Env.le ⟨F, fun b => b < w.heap.size⟩ ⟨F, Base.B ⟨w, fun _ => False, F, fun _ => none⟩⟩ w w from ⟨fun _ h => h, fun _ hb => ⟨hb, fun h => h⟩, fun _ _ => rfl, fun _ _ => rfl⟩) (Nms.le_refl _) hvs
    refine (h.2 _ F _ w vs hg hH hv).mono fun _ w' ⟨F', ι', H', nx', d, v, e1, e2, e3, e4, e5, d', e6, e7⟩ => ?_
    refine ⟨giv F' ι' H' (fun _ => True), fun _ => none, d', [], v, e1, ⟨e2.size, fun b hb => e2.keep b hb (fun h => h), fun b hb => .inl (e3.F b hb), fun b hb => ?_, (fun i x hx => by simp at hx), fun i b cap hi => by simp at hi, fun i j b c c' hi => by simp at hi, fun _ _ => rfl, DShw.rv e2.blk e6 e5, e2.io⟩, e7⟩
    rcases hb with hb | ⟨n, cap, -, g1, g2, g3⟩
    · exact ⟨(e2.Fof b hb).imp id fun h => h.resolve_left fun h => h, e2.Flt b hb⟩
    · obtain ⟨s1, s2, s3⟩ := e2.own n b cap g1 g2 g3
      exact ⟨.inr (s3.resolve_left fun h => h), s1⟩⟩
theorem HSol.nil : HSol (fun _ => Option.none) := fun n x hx => by cases hx
theorem regSet_ok (s : GState) (hz : Sized s) (th : Nat) (hth : th < s.threads.length) (reg : Int) (v : GVal) (hreg : 0 ≤ reg → ∃ k, ∃ hk : k < s.threads[th].frames.length, s.threads[th].frames.length = k + 1 ∧ reg < s.threads[th].frames[k].regs.length) (hl : s.threads[th].frames.length ≤ 1000) {K : D → List Blk → Prop}
    (h : K (aD (eState (s.setT th (intoT s.threads[th] reg v)))) []) : DPure Tryz.prog 95 [aD (eState s), dI th, dI reg, aD (eVal v)] K := by
  refine DPure.ofI ?_
  refine fni_ok [0,1,2,3,4,7,8,9,11] [(5, [0,0,2,6,15,31,63,0,0,511,1023], (.seg 0 (.seg 1 (.seg 2 (.seg 3 (.seg 4 (.seg 5 (.seg 6 (.seg 7 (.seg 8 (.seg 9 (.eff 10 [] .last))))))))))))] Tryz.func95 rfl (by kernel_rfl) rfl rfl rfl rfl (by kernel_rfl) ?_
  simp
  by_cases c0 : reg < 0
  · have e : s.setT th (intoT s.threads[th] reg v) = s := by rw [intoT, if_neg (by omega), setT_same hth]
    rw [e] at h
    simp [c0]
    refine ⟨?_, aD (eState s), CsS.csShw (CsS.dat (l := eState s) (by simp)), h⟩
    repeat' (first | exact HSol.nil | exact HSol.zero | refine HSol.set ?_ ?_ | (simp; done))
  simp [c0]
  refine copiedO_ic s hz ?_ (fun H1 A n1 hn1 low1 high1 sol1 hO => ?_)
  · repeat' (first | exact HSol.nil | exact HSol.zero | refine HSol.set ?_ ?_ | (simp; done))
  have g0 : H1 0 = some ⟨.c 32, 8, [(eState s).map .d]⟩ := by rw [low1 _ (by omega)]; simp [Hp.set]
  have g1 : H1 1 = some ⟨.c 50, 2, [[.d (eI v.kind), .d (eI v.n)]]⟩ := by rw [low1 _ (by omega)]; simp [Hp.set]
  have g2 : H1 2 = some ⟨.c 32, 8, [[.d .emp, .d .emp, .d .emp, .d .emp, .d .emp, .d .emp, .d (eI 0), .d (eI 0)]]⟩ := by rw [low1 _ (by omega)]; simp [Hp.set]
  clear low1
  have hn0 : ∀ x, Live s x → A x ≠ 0 := fun x hx => by have := hO.lo x hx; omega
  have O1 := hO.set_low (some ⟨.c 32, 8, [oRow A s]⟩) hn0
  obtain ⟨k, hk, hkl, hr⟩ := hreg (by omega)
  obtain ⟨q, rfl⟩ : ∃ q : Nat, reg = q := ⟨reg.toNat, by omega⟩
  have hq : q < s.threads[th].frames[k].regs.length := by omega
  obtain ⟨R, r1, r2, r3⟩ := hO.th
  obtain ⟨r4, r5⟩ := List.getElem?_eq_some_iff.1 (r3 th hth)
  rw [oTh, thR, hkl] at r5
  obtain ⟨FR, f1, f2, f3⟩ := (hO.tf th hth).blk
  obtain ⟨f4, f5⟩ := List.getElem?_eq_some_iff.1 (f3 k hk)
  rw [frRow] at f5
  obtain ⟨ys, y1⟩ := (hO.tf th hth).regs k hk
  rw [valBlk] at y1
  have y2 := vrow_get (ys := ys) hq
  have y3 := vrow_set (ys := ys) hq v
  have e1 := hn0 .t trivial
  have e2 := hn0 (.tf th) hth
  have e3 := hn0 (.tr th k) (live_tr hth hk)
  have m1 := hO.lo .t trivial
  have m2 := hO.lo (.tf th) hth
  have m3 := hO.lo (.tr th k) (live_tr hth hk)
  have e4 : ¬ 0 = A (.tr th k) := by omega
  have e5 : ¬ 1 = A (.tr th k) := by omega
  have e6 : ¬ 2 = A (.tr th k) := by omega
  have hw : IntKind.i64.wrap (k : Int) = k := wrap_id (by omega) (by omega)
  generalize hL : ((s.threads[th].frames[k].regs ++ ys).map fun v => (eVal v).map C.d) = L at *
  obtain ⟨y4, y5⟩ := List.getElem?_eq_some_iff.1 y2
  have hT : intoT s.threads[th] q v = s.threads[th].setF k (s.threads[th].frames[k].withR (s.threads[th].frames[k].regs.set q v)) := by
    have : s.threads[th].frames.length - 1 = k := by omega
    rw [intoT, if_pos (by omega), this]
    simp [List.getD_eq_getElem?_getD, hk]
  have O2 := O1.tReg hth hk (s.threads[th].frames[k].regs.set q v) ys (by simp) (b := ⟨.c 50, 2, L.set q [.d (eI v.kind), .d (eI v.n)]⟩) (by rw [y3]; rfl)
  rw [oRow] at O2
  have O3 := O2.set_low (n := 2) (some ⟨.c 32, 8, [oRow A s]⟩) fun x hx => by have := O2.lo x hx; omega
  rw [oRow]
  simp [g0, g1, g2, r1, r4, r5, f1, f4, f5, y1, y4, y5, e1, e2, e3, e4, e5, e6, hw, hq, hth]
  intro _
  have sol2 : HSol (((H1.set 0 (some ⟨.c 32, 8, [oRow A s]⟩)).set (A (.tr th k)) (some ⟨.c 50, 2, L.set q [C.d (eI v.kind), C.d (eI v.n)]⟩)).set 2 (some ⟨.c 32, 8, [oRow A s]⟩)) := by
    refine HSol.set (HSol.set (HSol.set sol1 (by simp [oRow])) ?_) (by simp [oRow])
    rw [y3]; exact (valBlk_new _).sol
  rw [← hT] at O3
  refine ⟨sol2, aD (eState (s.setT th (intoT s.threads[th] q v))), ?_, h⟩
  have := O3.shw (N := fun _ => True) fun _ _ => trivial
  rw [show oRow A (s.setT th (intoT s.threads[th] q v)) = oRow A s by simp [oRow, GState.setT]] at this
  exact CsS.csShw this
end Go.Proofs.YtjbkinmdcaegcaaGreatDoor
