/- Several texts in one. -/
import Derived.Test.YtjbkinmdcaegcaaGreatDoorMg
import Derived.Test.YtjbkinmdcaegcaaGreatDoorMo
import Derived.Test.YtjbkinmdcaegcaaGreatDoorMp
import Derived.Test.YtjbkinmdcaegcaaGreatDoorMq
import Derived.Test.YtjbkinmdcaegcaaGreatDoorMs
set_option linter.unusedSimpArgs false
set_option linter.unusedVariables false
set_option maxRecDepth 100000
set_option maxHeartbeats 16000000
namespace Go.Proofs.YtjbkinmdcaegcaaGreatDoor
open Go.RowKit Go
def intoT (t : GThread) (to_ : Int) (v : GVal) : GThread := if 0 ≤ to_ then t.setF (t.frames.length - 1) ((t.frames.getD (t.frames.length - 1) dFrame).withR ((t.frames.getD (t.frames.length - 1) dFrame).regs.set to_.toNat v)) else t
def goF (p : GProg) (f : GFrame) (g : Int) (v : GVal) (to_ : Int) : GFrame :=
  ⟨f.fn, f.at_, to_, g, f.self, if 0 < f.at_ then f.regs.set ((fnAt p f.fn).code.getD (f.at_ - 1).toNat dIns).a.toNat v else f.regs, f.tries⟩
def genE (e : GEvent) (kind g : Int) (v : GVal) : GEvent := ⟨kind, e.step, e.thread, e.fn, e.at_, e.line, g, e.b, v, e.old⟩
def dGC (s : GState) (g : Nat) : GCell := s.cells.getD g dCell
def dTh (s : GState) (th : Nat) : GThread := s.threads.getD th dThread
def goS (p : GProg) (s : GState) (th g : Nat) (v : GVal) (to_ : Int) : GState :=
  if (dGC s g).num = 2 then s.setT th (intoT (dTh s th) to_ ⟨0, 0⟩)
  else (s.setC g ⟨(dGC s g).kind, 1, (dGC s g).vals, []⟩).setT th ⟨(dTh s th).frames ++ [goF p ((dGC s g).frames.getD 0 dFrame) g v to_], (dTh s th).state, (dTh s th).on, (dTh s th).val⟩
def goL (s : GState) (g : Nat) (v : GVal) (e : GEvent) : List GEvent := if (dGC s g).num = 2 then [] else [genE e 16 g v]
def deepB (s : GState) (th g : Nat) : Bool := !decide ((dGC s g).num = 2) && decide (30 ≤ (dTh s th).frames.length)
def outS (s : GState) (th : Nat) (v : GVal) : GState :=
  (s.setT th (intoT ⟨(dTh s th).frames.dropLast, (dTh s th).state, (dTh s th).on, (dTh s th).val⟩ (lastF (dTh s th).frames).to v)).setC (lastF (dTh s th).frames).gen.toNat
    ⟨(dGC s (lastF (dTh s th).frames).gen.toNat).kind, 0, (dGC s (lastF (dTh s th).frames).gen.toNat).vals, [⟨(lastF (dTh s th).frames).fn, (lastF (dTh s th).frames).at_, -1, -1, (lastF (dTh s th).frames).self, (lastF (dTh s th).frames).regs, (lastF (dTh s th).frames).tries⟩]⟩
noncomputable def askE (p : GProg) (s : GState) (th : Int) : Int := if stateQ wordsT p s ≠ 0 then stateQ wordsT p s else if th < 0 ∨ (s.threads.length : Int) ≤ th then 5 else if (dTh s th.toNat).state ≠ 0 then 8 else 0
noncomputable def yieldE (p : GProg) (s : GState) (th : Int) (v : GVal) : Int :=
  if askE p s th ≠ 0 then askE p s th else if fitsB s v = false then 1 else if (lastF (dTh s th.toNat).frames).gen < 0 ∨ (lastF (dTh s th.toNat).frames).at_ = 0 ∨ ((fnAt p (lastF (dTh s th.toNat).frames).fn).code.getD ((lastF (dTh s th.toNat).frames).at_ - 1).toNat dIns).op ≠ 32 then 8 else 0
noncomputable def resE (p : GProg) (s : GState) (th : Int) (g v : GVal) (to_ : Int) : Int :=
  if askE p s th ≠ 0 then askE p s th else if fitsB s v = false ∨ to_ < -1 ∨ ((lastF (dTh s th.toNat).frames).regs.length : Int) ≤ to_ then 1
  else if namesB s g 5 = false then 7 else if (dGC s g.n.toNat).num = 1 then 8 else if deepB s th.toNat g.n.toNat = true then 2 else 0
section
variable {p : GProg} {s : GState}
theorem ask_zero {th : Int} (h : askE p s th = 0) : stateQ wordsT p s = 0 ∧ ∃ t : Nat, th = t ∧ ∃ ht : t < s.threads.length, s.threads[t].state = 0 ∧ s.threads[t].frames ≠ [] := by
  unfold askE at h
  by_cases q1 : stateQ wordsT p s = 0
  case neg => rw [if_pos q1] at h; exact absurd h q1
  rw [if_neg (by simpa using q1)] at h
  by_cases c1 : th < 0 ∨ (s.threads.length : Int) ≤ th
  · rw [if_pos c1] at h; cases h
  rw [if_neg c1] at h
  obtain ⟨t, rfl⟩ : ∃ t : Nat, th = t := ⟨th.toNat, by omega⟩
  have ht : t < s.threads.length := by omega
  have hd : dTh s t = s.threads[t] := by simp [dTh, List.getD_eq_getElem?_getD, ht]
  rw [Int.toNat_natCast, hd] at h
  by_cases c2 : s.threads[t].state = 0
  case neg => rw [if_pos c2] at h; cases h
  refine ⟨q1, t, rfl, ht, c2, fun e => ?_⟩
  have hb := (state_thread q1 (List.getElem_mem ht)).1
  simp only [threadB, Bool.and_eq_true] at hb
  have := hb.1.1.1.1.1
  simp [overB, c2, e] at this
theorem yield_reg (hp : checkQ wordsT p = 0) {f : GFn} (hf : f ∈ p.fns) {n : Nat} (hn : n < f.code.length) (h32 : f.code[n].op = 32) : 0 ≤ f.code[n].a ∧ f.code[n].a < f.regs := by
  obtain ⟨g1, g2, g3, g4, g5⟩ := fn_in hp hf
  have hord := orders_get g2 hn
  simp only [orderB, Bool.and_eq_true] at hord
  have ha := hord.1.1.1.2
  rw [h32] at ha
  have ha' : nameB p f 114 f.code[n].a = true := ha
  have hr := fn_regs g1
  have hr2 := ((large_lt (check_zero hp).1).2.2.2 _ hf).2
  simp only [nameB, if_pos] at ha'
  rw [wr_in (by omega) (by omega)] at ha'
  simp [btw] at ha'
  omega
theorem frame_fn {f : GFrame} (h : frameB p s f = true) : 0 ≤ f.fn ∧ f.fn < p.fns.length ∧ (f.regs.length : Int) = (fnAt p f.fn).regs ∧ 0 ≤ f.at_ ∧ f.at_ < (fnAt p f.fn).code.length := by
  simp only [frameB, Bool.and_eq_true, decide_eq_true_eq] at h
  obtain ⟨⟨⟨⟨⟨⟨⟨⟨⟨h1, h2⟩, h3⟩, h4⟩, h5⟩, h6⟩, h7⟩, h8⟩, h9⟩, h10⟩ := h
  exact ⟨h1, h2, h5, h6, h7⟩
theorem waits_of (h : stateQ wordsT p s = 0) {g : Nat} (hg : g < s.cells.length) (hk : s.cells[g].kind = 5) : s.cells[g].vals = [] ∧ (0 ≤ s.cells[g].num ∧ s.cells[g].num ≤ 2) ∧ (s.cells[g].num ≠ 0 → s.cells[g].frames = []) ∧ (s.cells[g].num = 0 → ∃ f, s.cells[g].frames = [f] ∧ savedB p s f = true) := by
  obtain ⟨-, h2, -, h4⟩ := stateQ_iff.1 h
  obtain ⟨g1, -, -, -, g5, -⟩ := cellsQ_iff.1 h2
  have hb := List.all_eq_true.1 g5 _ (List.getElem_mem hg)
  simp only [cellB, Bool.and_eq_true, decide_eq_true_eq] at hb
  obtain ⟨⟨⟨hkd, hl⟩, -⟩, -⟩ := hb
  unfold kindB at hkd
  rw [if_neg (by omega), if_neg (by omega), if_neg (by omega), if_neg (by omega), if_neg (by omega), if_pos hk] at hkd
  simp [btw] at hkd
  simp only [stateB, Bool.and_eq_true] at h4
  have hh := List.all_eq_true.1 h4.1.1.1.2 _ (List.getElem_mem hg)
  unfold heapB at hh
  rw [if_neg (by omega), if_pos hk] at hh
  refine ⟨hkd.2, hkd.1, fun hn => ?_, fun hn => ?_⟩
  · unfold framesOf at hl
    rw [if_neg (fun e => hn e.2)] at hl
    exact List.eq_nil_of_length_eq_zero hl
  · unfold framesOf at hl
    rw [if_pos ⟨hk, hn⟩] at hl
    obtain ⟨f, hf⟩ := List.length_eq_one_iff.1 hl
    rw [hf, hn] at hh
    simp at hh
    exact ⟨f, hf, hh⟩
end
theorem vrow_set {l ys : List GVal} {q : Nat} (h : q < l.length) (v : GVal) : ((l ++ ys).map fun v => (eVal v).map C.d).set q [.d (eI v.kind), .d (eI v.n)] = (l.set q v ++ ys).map fun v => (eVal v).map C.d := by
  rw [← List.set_append_left _ _ h, List.map_set]; rfl
theorem vrow_get {l ys : List GVal} {q : Nat} (h : q < l.length) : ((l ++ ys).map fun v => (eVal v).map C.d)[q]? = some [.d (eI l[q].kind), .d (eI l[q].n)] := by
  rw [List.getElem?_map, List.getElem?_append_left h, List.getElem?_eq_getElem h]; rfl
theorem setT_same {s : GState} {i : Nat} (hi : i < s.threads.length) : s.setT i s.threads[i] = s := by
  simp [GState.setT]
theorem into_ok (to_ : Int) (v : GVal) {s : GState} {A : Ad → Nat} {lo : Nat} {H : Hp} {nx : Nat} (hSol : HSol H) (hO : OwnS H lo A s) {i : Nat} (hi : i < s.threads.length) (hto : 0 ≤ to_ → ∃ k, ∃ hk : k < s.threads[i].frames.length, s.threads[i].frames.length = k + 1 ∧ to_ < s.threads[i].frames[k].regs.length) (hl : s.threads[i].frames.length ≤ 1000) {K : D → Hp → Nat → Prop}
    (h : ∀ H' nx', nx ≤ nx' → (∀ q, q < nx → (∀ j, j < s.threads[i].frames.length → q ≠ A (.tr i j)) → H' q = H q) → (∀ q, nx' ≤ q → H' q = none) → HSol H' → OwnS H' lo A (s.setT i (intoT s.threads[i] to_ v)) → K (.tup []) H' nx') :
    ICall Tryz.prog 146 [.one (.ptr (A .t) 5 i 0), dI to_, aD (eVal v)] H nx K := by
  refine ICall.fresh (by kernel_rfl) fun hfr => ?_
  have n1 : ∀ x, Live s x → A x ≠ nx := fun x hx => by have := hO.lt hfr hx; omega
  have sol1 : HSol (H.set nx (some ⟨.c 50, 2, [[.d (eI v.kind), .d (eI v.n)]]⟩)) := hSol.set (by simp)
  have O1 := hO.set_low (some ⟨.c 50, 2, [[.d (eI v.kind), .d (eI v.n)]]⟩) n1
  refine fni_ok [0,1,2,5,7] [(2, [0,1,3,7,0,16,48,112,240,496,1023,2047,4095,0,0,32767,65535], (.seg 0 (.seg 1 (.seg 2 (.seg 3 (.seg 4 (.seg 5 (.seg 6 (.seg 7 (.seg 8 (.seg 9 (.seg 10 (.seg 11 (.seg 12 (.seg 13 (.seg 14 (.seg 15 (.eff 16 [] .last))))))))))))))))))] Tryz.func146 rfl (by kernel_rfl) rfl rfl rfl rfl (by kernel_rfl) ?_
  simp
  by_cases c0 : 0 ≤ to_
  case neg =>
    simp [c0]
    refine ⟨sol1, h _ _ (by omega) (fun q h1 _ => Hp.set_ne _ _ (by omega)) (fun q h1 => by rw [Hp.set_ne _ _ (by omega)]; exact hfr q (by omega)) sol1 ?_⟩
    rw [intoT, if_neg c0, setT_same hi]
    exact O1
  obtain ⟨k, hk, hkl, hr⟩ := hto c0
  obtain ⟨q, rfl⟩ : ∃ q : Nat, to_ = q := ⟨to_.toNat, by omega⟩
  have hq : q < s.threads[i].frames[k].regs.length := by omega
  obtain ⟨R, r1, r2, r3⟩ := hO.th
  obtain ⟨r4, r5⟩ := List.getElem?_eq_some_iff.1 (r3 i hi)
  rw [oTh, thR, hkl] at r5
  obtain ⟨FR, f1, f2, f3⟩ := (hO.tf i hi).blk
  obtain ⟨f4, f5⟩ := List.getElem?_eq_some_iff.1 (f3 k hk)
  rw [frRow] at f5
  obtain ⟨ys, g1⟩ := (hO.tf i hi).regs k hk
  rw [valBlk] at g1
  have g2 := vrow_get (ys := ys) hq
  have g3 := vrow_set (ys := ys) hq v
  have e1 := n1 .t trivial
  have e2 := n1 (.tf i) hi
  have e3 := n1 (.tr i k) (live_tr hi hk)
  have e4 : ¬ nx = A (.tr i k) := fun e => e3 e.symm
  have hw : IntKind.i64.wrap (k : Int) = k := wrap_id (by omega) (by omega)
  generalize hL : ((s.threads[i].frames[k].regs ++ ys).map fun v => (eVal v).map C.d) = L at *
  obtain ⟨g4, g5⟩ := List.getElem?_eq_some_iff.1 g2
  simp [r1, r4, r5, f1, f4, f5, g1, g4, g5, e1, e2, e3, e4, hw, hq]
  have O2 := O1.tReg hi hk (s.threads[i].frames[k].regs.set q v) ys (by simp) (b := ⟨.c 50, 2, L.set q [.d (eI v.kind), .d (eI v.n)]⟩) (by rw [g3]; rfl)
  have hT : intoT s.threads[i] q v = s.threads[i].setF k (s.threads[i].frames[k].withR (s.threads[i].frames[k].regs.set q v)) := by
    have : s.threads[i].frames.length - 1 = k := by omega
    rw [intoT, if_pos c0, this]
    simp [List.getD_eq_getElem?_getD, hk]
  intro _
  have sol2 : HSol ((H.set nx (some ⟨.c 50, 2, [[.d (eI v.kind), .d (eI v.n)]]⟩)).set (A (.tr i k)) (some ⟨.c 50, 2, L.set q [.d (eI v.kind), .d (eI v.n)]⟩)) := sol1.set (by rw [g3]; exact (valBlk_new _).sol)
  exact ⟨sol2, h _ _ (by omega) (fun q' h1 h2 => by rw [Hp.set_ne _ _ (h2 k hk), Hp.set_ne _ _ (by omega)]) (fun q' h1 => by rw [Hp.set_ne _ _ (by have := hO.lt hfr (live_tr hi hk); omega), Hp.set_ne _ _ (by omega)]; exact hfr q' (by omega)) sol2 (by rw [hT]; exact O2)⟩
theorem last_ok (s : GState) (t : Nat) (ht : t < s.threads.length) (hne : s.threads[t].frames ≠ []) (hl : s.threads[t].frames.length ≤ 1000) {K : D → List Blk → Prop} (h : K (aD (eFrame (lastF s.threads[t].frames))) []) : DPure Tryz.prog 93 [aD (eState s), dI t] K := by
  have hn : 0 < s.threads[t].frames.length := List.length_pos_iff.2 hne
  obtain ⟨k, hk⟩ : ∃ k, s.threads[t].frames.length = k + 1 := ⟨_, (Nat.succ_pred_eq_of_pos hn).symm⟩
  have hlast : lastF s.threads[t].frames = s.threads[t].frames[k] := by simp [lastF, hk, List.getD_eq_getElem?_getD]
  rw [hlast] at h
  have hw : IntKind.i64.wrap (k : Int) = k := wrap_id (by omega) (by omega)
  refine fn_ok [0,1,2,4,5] [] Tryz.func93 rfl (by kernel_rfl) rfl rfl rfl rfl (by kernel_rfl) ?_
  simp [ht, hk, hw]
  intro _
  exact h
theorem asked_ok (p : GProg) (hp : okP p) (s : GState) (hs : okSt s) (th : Int) {K : D → List Blk → Prop} (h : K (dI (askE p s th)) []) : DPure Tryz.prog 92 [aD (eProg p), aD (eState s), dI th] K := by
  refine fn_ok [0,1,2,3,4,6,7,12,14,24] [] Tryz.func92 rfl (by kernel_rfl) rfl rfl rfl rfl (by kernel_rfl) ?_
  simp
  refine ⟨_, rfl, Wk.refl _, ?_⟩; simp [vcC0]
  refine stCheck_ok p hp s hs ?_
  unfold askE at h
  by_cases q1 : stateQ wordsT p s = 0
  case neg =>
    rw [if_pos q1] at h
    simp [q1]
    exact h
  rw [if_neg (by simpa using q1)] at h
  simp [q1]
  by_cases c1 : th < 0
  · rw [if_pos (.inl c1)] at h
    simp [c1, show ¬ 0 ≤ th by omega]
    exact h
  have c1' : 0 ≤ th := by omega
  by_cases c2 : (s.threads.length : Int) ≤ th
  · rw [if_pos (.inr c2)] at h
    simp [c1', c2]
    intro _
    exact h
  obtain ⟨t, rfl⟩ : ∃ t : Nat, th = t := ⟨th.toNat, by omega⟩
  have ht : t < s.threads.length := by omega
  have hd : dTh s t = s.threads[t] := by simp [dTh, List.getD_eq_getElem?_getD, ht]
  rw [if_neg (by omega), Int.toNat_natCast, hd] at h
  by_cases c3 : s.threads[t].state = 0
  · rw [if_neg (by simpa using c3)] at h
    simp [c1', c2, ht, c3]
    intro _
    exact h
  · rw [if_pos c3] at h
    simp [c1', c2, ht, c3]
    intro _
    exact h
theorem and_of {p q : Prop} (h : p) (g : p → q) : p ∧ q := ⟨h, g h⟩
theorem genOut_ok (th : Nat) (v : GVal) (e : GEvent) {s : GState} {A : Ad → Nat} {lo nS : Nat} {H : Hp} {nx : Nat} (hSol : HSol H) (hO : OwnS H lo A s) (hS : H nS = some ⟨.c 32, 8, [oRow A s]⟩) (hSn : ∀ x, Live s x → A x ≠ nS) (hth : th < s.threads.length) {m : Nat} (hn : s.threads[th].frames.length = m + 1) (hm : 0 < m) (hl : s.threads[th].frames.length ≤ 30)
    {f : GFrame} (hf : s.threads[th].frames[m]? = some f) {g : Nat} (hg : f.gen = g) (hgl : g < s.cells.length) (hto : ∀ h : m - 1 < s.threads[th].frames.length, f.to < s.threads[th].frames[m - 1].regs.length) (hnx : lo ≤ nx) {K : D → Hp → Nat → Prop}
    (h : ∀ H' nx' A' eo, nx ≤ nx' → (∀ q, q < nx → (∀ x, Live s x → q ≠ A x) → H' q = H q) → (∀ q, nx' ≤ q → H' q = none) → HSol H' → OwnS H' lo A' (outS s th v) → oRow A' (outS s th v) = oRow A s → (∀ x, Live (outS s th v) x → A' x ≠ nS) → nx ≤ eo → (∀ x, Live (outS s th v) x → A' x ≠ eo) → H' eo = some ⟨.c 76, 12, [evRow (genE e 15 g v)]⟩ → K (.one (.own eo 12 1)) H' nx') :
    ICall Tryz.prog 94 [.one (.ptr nS 8 0 0), dI th, aD (eVal v), aD (eEvent e)] H nx K := by
  refine ICall.fresh (by kernel_rfl) fun hfr => ?_
  have n1 : ∀ x, Live s x → A x < nx := fun x hx => hO.lt hfr hx
  have pS := fresh_lt hfr hS
  have hn1 : m < s.threads[th].frames.length := by omega
  obtain ⟨R, r1, r2, r3⟩ := hO.th
  obtain ⟨r4, r5⟩ := List.getElem?_eq_some_iff.1 (r3 th hth)
  rw [oTh, thR, hn] at r5
  obtain ⟨FR, f1, f2, f3⟩ := (hO.tf th hth).blk
  have hfe : s.threads[th].frames[m] = f := by
    rw [List.getElem?_eq_getElem hn1, Option.some.injEq] at hf; exact hf
  obtain ⟨f4, f5⟩ := List.getElem?_eq_some_iff.1 (f3 m hn1)
  rw [hfe, frRow] at f5
  have m1 := n1 .t trivial
  have m2 := n1 (.tf th) hth
  have e1 : ¬ A .t = nx := by omega
  have e2 : ¬ A (.tf th) = nx := by omega
  have e3 : ¬ A .t = nx + 1 := by omega
  have e4 : ¬ A (.tf th) = nx + 1 := by omega
  have e5 : ¬ nS = nx := by omega
  have e6 : ¬ nS = nx + 1 := by omega
  have e7 : ¬ A (.tf th) = nx + 2 := by omega
  have e8 : ¬ nS = nx + 2 := by omega
  have e9 : ¬ A .t = nx + 2 := by omega
  have e10 : ¬ nx + 2 = A .t := by omega
  have e11 : ¬ nx = A .t := by omega
  have hw : IntKind.i64.wrap (m : Int) = m := wrap_id (by omega) (by omega)
  have hS2 := hS
  rw [oRow] at hS2
  refine fni_ok [0,1,2,3,6,7,8,9,10,11,12] [(8, [0,1,3,7,0,0,32,96,224,0,0,1024,511,4607,12799,32767,65535,131071], (.seg 0 (.seg 1 (.seg 2 (.seg 3 (.seg 4 (.seg 5 (.seg 6 (.seg 7 (.seg 8 (.seg 9 (.seg 10 (.seg 12 (.seg 13 (.fork 11 [1, 2, 3, 6, 7, 8, 12, 13] (.eff 14 [] (.seg 15 (.seg 16 (.eff 17 [] .last)))) (.eff 14 [10] (.eff 11 [10] (.seg 15 (.seg 16 (.eff 17 [] .last)))))))))))))))))))), (9, [0,0,0,4,13,29,63,127], (.seg 0 (.seg 1 (.seg 2 (.eff 3 [1] (.seg 4 (.eff 5 [1] (.seg 6 (.eff 7 [] .last)))))))))] Tryz.func94 rfl (by kernel_rfl) rfl rfl rfl rfl (by kernel_rfl) ?_
  have r6 : ¬ nx = nx + 2 := by omega
  simp [hS2, r1, r4, r5, f1, f4, f5, e1, e2, e3, e4, e5, e6, e7, e8, e9, e10, e11, hw, hth, r6, Nat.add_assoc]
  intro _
  refine ⟨by omega, ?_⟩
  obtain ⟨n, rfl⟩ : ∃ n, m = n + 1 := ⟨m - 1, by omega⟩
  rw [Nat.add_sub_cancel] at hto
  have n2 : ∀ x, Live s x → A x ≠ nx ∧ A x ≠ nx + 1 ∧ A x ≠ nx + 2 := fun x hx => by have := n1 x hx; omega
  have O1 := ((hO.set_low (some ⟨.c 50, 2, [[.d (eI v.kind), .d (eI v.n)]]⟩) fun x hx => (n2 x hx).1).set_low (some ⟨.c 76, 12, [[C.d (eI e.kind), C.d (eI e.step), C.d (eI e.thread), C.d (eI e.fn), C.d (eI e.at_), C.d (eI e.line), C.d (eI e.a), C.d (eI e.b), C.d (eI e.val.kind), C.d (eI e.val.n), C.d (eI e.old.kind), C.d (eI e.old.n)]]⟩) fun x hx => (n2 x hx).2.1).set_low (some ⟨.c 61, 8, [[C.d (eI f.fn), C.d (eI f.at_), C.d (eI f.to), C.d (eI f.gen), C.d (eI f.self.kind), C.d (eI f.self.n), C.own (A (Ad.tr th (n + 1))) 2 f.regs.length, C.own (A (Ad.tt th (n + 1))) 2 f.tries.length]]⟩) fun x hx => (n2 x hx).2.2
  have r7 : (((H.set nx (some ⟨.c 50, 2, [[.d (eI v.kind), .d (eI v.n)]]⟩)).set (nx + 1) (some ⟨.c 76, 12, [[C.d (eI e.kind), C.d (eI e.step), C.d (eI e.thread), C.d (eI e.fn), C.d (eI e.at_), C.d (eI e.line), C.d (eI e.a), C.d (eI e.b), C.d (eI e.val.kind), C.d (eI e.val.n), C.d (eI e.old.kind), C.d (eI e.old.n)]]⟩)).set (nx + 2) (some ⟨.c 61, 8, [[C.d (eI f.fn), C.d (eI f.at_), C.d (eI f.to), C.d (eI f.gen), C.d (eI f.self.kind), C.d (eI f.self.n), C.own (A (Ad.tr th (n + 1))) 2 f.regs.length, C.own (A (Ad.tt th (n + 1))) 2 f.tries.length]]⟩)) (A .t) = some ⟨.c 56, 5, R⟩ := by
    rw [Hp.set_ne _ _ e9, Hp.set_ne _ _ e3, Hp.set_ne _ _ e1]; exact r1
  have O2 := O1.thRow hth (t' := ⟨s.threads[th].frames.take (n + 1), s.threads[th].state, s.threads[th].on, s.threads[th].val⟩) (n + 1) rfl r7 (e := [C.own (A (Ad.tf th)) 8 (n + 1), C.d (eI s.threads[th].state), C.d (eI s.threads[th].on), C.d (eI s.threads[th].val.kind), C.d (eI s.threads[th].val.n)]) (by simp [oTh, thR]; omega)
  have sol1 : HSol ((((H.set nx (some ⟨.c 50, 2, [[.d (eI v.kind), .d (eI v.n)]]⟩)).set (nx + 1) (some ⟨.c 76, 12, [[C.d (eI e.kind), C.d (eI e.step), C.d (eI e.thread), C.d (eI e.fn), C.d (eI e.at_), C.d (eI e.line), C.d (eI e.a), C.d (eI e.b), C.d (eI e.val.kind), C.d (eI e.val.n), C.d (eI e.old.kind), C.d (eI e.old.n)]]⟩)).set (nx + 2) (some ⟨.c 61, 8, [[C.d (eI f.fn), C.d (eI f.at_), C.d (eI f.to), C.d (eI f.gen), C.d (eI f.self.kind), C.d (eI f.self.n), C.own (A (Ad.tr th (n + 1))) 2 f.regs.length, C.own (A (Ad.tt th (n + 1))) 2 f.tries.length]]⟩)).set (A .t) (some ⟨.c 56, 5, R.set th [C.own (A (Ad.tf th)) 8 (n + 1), C.d (eI s.threads[th].state), C.d (eI s.threads[th].on), C.d (eI s.threads[th].val.kind), C.d (eI s.threads[th].val.n)]⟩)) := by
    refine HSol.set (HSol.set (HSol.set (HSol.set hSol (by simp)) (by simp)) (by simp)) ?_
    exact (r2.set (fun c hc => by simp at hc; rcases hc with rfl | rfl | rfl | rfl | rfl <;> rfl)).sol
  have hT2 : (s.setT th ⟨s.threads[th].frames.take (n + 1), s.threads[th].state, s.threads[th].on, s.threads[th].val⟩).threads[th]'(by simpa [GState.setT] using hth) = ⟨s.threads[th].frames.take (n + 1), s.threads[th].state, s.threads[th].on, s.threads[th].val⟩ := by simp [GState.setT]
  refine into_ok f.to v sol1 O2 (i := th) (by simpa [GState.setT] using hth) (fun _ => ⟨n, by rw [hT2]; simp; omega, by rw [hT2]; simp; omega, ?_⟩) (by rw [hT2]; simp; omega) (fun H5 nx5 hn5 low5 high5 sol5 O5 => ?_)
  · simp only [hT2]
    rw [List.getElem_take]; exact hto (by omega)
  rw [hT2] at low5 O5
  have low6 : ∀ q, q < nx + 3 → (∀ j, j < n + 1 → q ≠ A (.tr th j)) → q ≠ A .t → H5 q = (((H.set nx (some ⟨.c 50, 2, [[.d (eI v.kind), .d (eI v.n)]]⟩)).set (nx + 1) (some ⟨.c 76, 12, [[C.d (eI e.kind), C.d (eI e.step), C.d (eI e.thread), C.d (eI e.fn), C.d (eI e.at_), C.d (eI e.line), C.d (eI e.a), C.d (eI e.b), C.d (eI e.val.kind), C.d (eI e.val.n), C.d (eI e.old.kind), C.d (eI e.old.n)]]⟩)).set (nx + 2) (some ⟨.c 61, 8, [[C.d (eI f.fn), C.d (eI f.at_), C.d (eI f.to), C.d (eI f.gen), C.d (eI f.self.kind), C.d (eI f.self.n), C.own (A (Ad.tr th (n + 1))) 2 f.regs.length, C.own (A (Ad.tt th (n + 1))) 2 f.tries.length]]⟩)) q := fun q h1 h2 h3 => by
    rw [low5 q h1 fun j hj => h2 j (by simp at hj; omega), Hp.set_ne _ _ h3]
  have hnr : ∀ q, nx ≤ q → ∀ j, j < n + 1 → q ≠ A (.tr th j) := fun q hq j hj => by have := n1 _ (live_tr hth (j := j) (by omega)); omega
  have b0 : H5 nx = some ⟨.c 50, 2, [[.d (eI v.kind), .d (eI v.n)]]⟩ := by rw [low6 _ (by omega) (hnr _ (by omega)) e11, Hp.set_ne _ _ (by omega), Hp.set_ne _ _ (by omega), Hp.set_same]
  have b1 : H5 (nx + 1) = some ⟨.c 76, 12, [[C.d (eI e.kind), C.d (eI e.step), C.d (eI e.thread), C.d (eI e.fn), C.d (eI e.at_), C.d (eI e.line), C.d (eI e.a), C.d (eI e.b), C.d (eI e.val.kind), C.d (eI e.val.n), C.d (eI e.old.kind), C.d (eI e.old.n)]]⟩ := by rw [low6 _ (by omega) (hnr _ (by omega)) (by omega), Hp.set_ne _ _ (by omega), Hp.set_same]
  have b2 : H5 (nx + 2) = some ⟨.c 61, 8, [[C.d (eI f.fn), C.d (eI f.at_), C.d (eI f.to), C.d (eI f.gen), C.d (eI f.self.kind), C.d (eI f.self.n), C.own (A (Ad.tr th (n + 1))) 2 f.regs.length, C.own (A (Ad.tt th (n + 1))) 2 f.tries.length]]⟩ := by rw [low6 _ (by omega) (hnr _ (by omega)) (by omega), Hp.set_same]
  have low7 : ∀ q, q < nx → (∀ j, j < n + 1 → q ≠ A (.tr th j)) → q ≠ A .t → H5 q = H q := fun q h1 h2 h3 => by rw [low6 q (by omega) h2 h3, Hp.set_ne _ _ (by omega), Hp.set_ne _ _ (by omega), Hp.set_ne _ _ (by omega)]
  have b3 : H5 nS = some ⟨.c 32, 8, [oRow A s]⟩ := by rw [low7 _ pS (fun j hj e => hSn _ (live_tr hth (j := j) (by omega)) e.symm) (fun e => hSn .t trivial e.symm)]; exact hS
  obtain ⟨Q, c1, c2, c3⟩ := hO.ce
  have p1 := n1 .c trivial
  have b4 : H5 (A .c) = some ⟨.c 48, 4, Q⟩ := by rw [low7 _ p1 (fun j hj => hO.ne (x := .c) trivial (live_tr hth (j := j) (by omega)) (fun e => by cases e)) (hO.ne (x := .c) (y := .t) trivial trivial (fun e => by cases e))]; exact c1
  obtain ⟨c4, c5⟩ := List.getElem?_eq_some_iff.1 (c3 g hgl)
  rw [oCe, ceR] at c5
  have c6 := hSn .c trivial
  rw [oRow] at b3
  have d0 : ¬ nx = nx5 := by omega
  have d1 : ¬ nx + 1 = nx5 := by omega
  have d2 : ¬ nx + 2 = nx5 := by omega
  have d3 : ¬ nS = nx5 := by omega
  have d4 : ¬ A .c = nx5 := by omega
  have d5 : ¬ nS = nx + 2 := by omega
  have d6 : ¬ A .c = nx + 2 := by omega
  have d7 : ¬ nS = A .c := fun e => c6 e.symm
  have d8 : ¬ nx + 1 = A .c := by omega
  have d9 : ¬ nx = A .c := by omega
  have d10 : ¬ nx + 2 = A .c := by omega
  have ho : outS s th v = ((s.setT th ⟨s.threads[th].frames.take (n + 1), s.threads[th].state, s.threads[th].on, s.threads[th].val⟩).setT th (intoT ⟨s.threads[th].frames.take (n + 1), s.threads[th].state, s.threads[th].on, s.threads[th].val⟩ f.to v)).setC g ⟨s.cells[g].kind, 0, s.cells[g].vals, [⟨f.fn, f.at_, -1, -1, f.self, f.regs, f.tries⟩]⟩ := by
    have h1 : dTh s th = s.threads[th] := by simp [dTh, List.getD_eq_getElem?_getD, hth]
    have h2 : lastF s.threads[th].frames = f := by rw [lastF, hn, Nat.add_sub_cancel, List.getD_eq_getElem?_getD, hf]; rfl
    have h3 : dGC s g = s.cells[g] := by simp [dGC, List.getD_eq_getElem?_getD, hgl]
    rw [outS, h1, h2, hg, Int.toNat_natCast, h3, List.dropLast_eq_take, hn, Nat.add_sub_cancel]
    simp [GState.setT, GState.setC]
  have hl5 : (intoT ⟨s.threads[th].frames.take (n + 1), s.threads[th].state, s.threads[th].on, s.threads[th].val⟩ f.to v).frames.length = n + 1 := by
    unfold intoT
    split
    · simp [GThread.setF]; omega
    · simp; omega
  have hll : (intoT ⟨s.threads[th].frames.take (n + 1), s.threads[th].state, s.threads[th].on, s.threads[th].val⟩ f.to v).frames.length ≤ s.threads[th].frames.length := by omega
  generalize hT5 : intoT ⟨s.threads[th].frames.take (n + 1), s.threads[th].state, s.threads[th].on, s.threads[th].val⟩ f.to v = T5 at *
  have hS5 : (s.setT th ⟨s.threads[th].frames.take (n + 1), s.threads[th].state, s.threads[th].on, s.threads[th].val⟩).setT th T5 = s.setT th T5 := by simp [GState.setT]
  rw [hS5] at ho O5
  have hlive : ∀ x, Live (s.setT th T5) x → Live s x := fun x hx => live_lessT hth hll hx
  have fin : ∀ (Hf : Hp) (nx6 : Nat), nx5 + 2 ≤ nx6 → HSol Hf → (∀ q, q ≠ nx + 1 → q ≠ nx + 2 → q ≠ A .c → q ≠ nx5 → q ≠ nx5 + 1 → Hf q = H5 q) → Hf (A .c) = some ⟨.c 48, 4, Q.set g [C.d (eI s.cells[g].kind), C.d (eI 0), C.own (A (.cv g)) 2 s.cells[g].vals.length, C.own nx5 8 1]⟩ →
      Hf nx5 = some ⟨.c 61, 8, [[C.d (eI f.fn), C.d (eI f.at_), C.d (eI (-1)), C.d (eI (-1)), C.d (eI f.self.kind), C.d (eI f.self.n), C.own (A (Ad.tr th (n + 1))) 2 f.regs.length, C.own (A (Ad.tt th (n + 1))) 2 f.tries.length]]⟩ → Hf (nx5 + 1) = some ⟨.c 76, 12, [[C.d (eI 15), C.d (eI e.step), C.d (eI e.thread), C.d (eI e.fn), C.d (eI e.at_), C.d (eI e.line), C.d (eI g), C.d (eI e.b), C.d (eI v.kind), C.d (eI v.n), C.d (eI e.old.kind), C.d (eI e.old.n)]]⟩ →
      K (.one (.own (nx5 + 1) 12 1)) Hf nx6 := by
    intro Hf nx6 hn6 solf lowf hfc hff hfe2
    have hlow : ∀ x, Live s x → x ≠ .c → Hf (A x) = H5 (A x) := fun x hx hne => by
      have := n1 x hx
      exact lowf _ (by omega) (by omega) (hO.ne hx (y := .c) trivial hne) (by omega) (by omega)
    have hr : ∀ x, Live s x → (∀ j, j < n + 1 → x ≠ .tr th j) → x ≠ .t → H5 (A x) = H (A x) := fun x hx h1 h2 => low7 _ (n1 x hx) (fun j hj => hO.ne hx (live_tr hth (j := j) (by omega)) (h1 j hj)) (hO.ne hx (y := .t) trivial h2)
    have O6 := O5.newC (H' := Hf) (i := g) (c' := ⟨s.cells[g].kind, 0, s.cells[g].vals, [⟨f.fn, f.at_, -1, -1, f.self, f.regs, f.tries⟩]⟩) hgl (A (.cv g)) nx5 (fun _ => A (.tr th (n + 1))) (fun _ => A (.tt th (n + 1))) (fun x h1 _ h3 => hlow x (hlive x h1) h3) b4 hfc
      (by
        obtain ⟨ys, h1⟩ := hO.cv g hgl
        exact ⟨ys, by rw [hlow (.cv g) hgl (fun e => by cases e), hr (.cv g) hgl (fun j _ e => by cases e) (fun e => by cases e)]; exact h1⟩)
      (by
        obtain ⟨ys, h1⟩ := (hO.tf th hth).regs (n + 1) hn1
        obtain ⟨zs, h2⟩ := (hO.tf th hth).tries (n + 1) hn1
        rw [hfe] at h1 h2
        refine ⟨⟨_, hff, fun e he c hc => ?_, fun j hj => ?_⟩, fun j hj => ?_, fun j hj => ?_⟩
        · rw [List.mem_singleton] at he
          subst he
          simp at hc
          rcases hc with rfl | rfl | rfl | rfl | rfl | rfl | rfl | rfl <;> rfl
        · obtain rfl : j = 0 := by simpa using hj
          rfl
        · obtain rfl : j = 0 := by simpa using hj
          exact ⟨ys, by rw [hlow _ (live_tr hth hn1) (fun e => by cases e), hr _ (live_tr hth hn1) (fun j hj e => by injection e; omega) (fun e => by cases e)]; exact h1⟩
        · obtain rfl : j = 0 := by simpa using hj
          exact ⟨zs, by rw [hlow _ (live_tt hth hn1) (fun e => by cases e), hr _ (live_tt hth hn1) (fun j hj e => by cases e) (fun e => by cases e)]; exact h2⟩)
      (by have := n1 (.cv g) hgl; omega) (fun j _ => ⟨hO.ne (x := .cv g) hgl (live_tr hth hn1) (fun e => by cases e), hO.ne (x := .cv g) hgl (live_tt hth hn1) (fun e => by cases e)⟩)
      ⟨fun j _ => by have := n1 _ (live_tr hth hn1); have := n1 _ (live_tt hth hn1); omega, fun j k _ _ => hO.ne (live_tr hth hn1) (live_tt hth hn1) (fun e => by cases e), fun j k hj hk _ => by simp at hj hk; omega, fun j k hj hk _ => by simp at hj hk; omega⟩
      (fun x h1 h2 => ⟨hO.ne (hlive x h1) (y := .cv g) hgl (fun e => h2 (by rw [e]; exact rfl)), by have := n1 x (hlive x h1); omega, fun j _ => ⟨hO.ne (hlive x h1) (live_tr hth hn1) (fun e => ?_), hO.ne (hlive x h1) (live_tt hth hn1) (fun e => ?_)⟩⟩)
      ⟨hO.lo (.cv g) hgl, by omega, fun j _ => ⟨hO.lo _ (live_tr hth hn1), hO.lo _ (live_tt hth hn1)⟩⟩
    · rw [← ho] at O6
      have hA : ∀ x, Live (outS s th v) x → withC A g (A (.cv g)) nx5 (fun _ => A (.tr th (n + 1))) (fun _ => A (.tt th (n + 1))) x = nx5 ∨ ∃ y, Live s y ∧ withC A g (A (.cv g)) nx5 (fun _ => A (.tr th (n + 1))) (fun _ => A (.tt th (n + 1))) x = A y := fun x hx => by
        rw [ho] at hx
        by_cases hc : ofC g x
        · cases x <;> simp only [ofC] at hc <;> subst hc <;> simp only [withC, if_true]
          · exact .inr ⟨Ad.cv _, hgl, rfl⟩
          · exact .inl trivial
          · exact .inr ⟨_, live_tr hth hn1, rfl⟩
          · exact .inr ⟨_, live_tt hth hn1, rfl⟩
        · exact .inr ⟨x, hlive x ((live_setC hc).1 hx), withC_out hc⟩
      refine h Hf nx6 _ (nx5 + 1) (by omega) (fun q h1 h2 => ?_) (fun q h1 => ?_) solf O6 ?_ (fun x hx => ?_) (by omega) (fun x hx => ?_) hfe2
      · rw [lowf q (by omega) (by omega) (h2 .c trivial) (by omega) (by omega), low7 q h1 (fun j hj => h2 _ (live_tr hth (j := j) (by omega))) (h2 .t trivial)]
      · rw [lowf q (by omega) (by omega) (by omega) (by omega) (by omega)]; exact high5 q (by omega)
      · rw [ho]; simp [oRow, withC, GState.setT, GState.setC]
      · rcases hA x hx with e | ⟨y, hy, e⟩ <;> rw [e]
        · omega
        · exact hSn y hy
      · rcases hA x hx with e | ⟨y, hy, e⟩ <;> rw [e]
        · omega
        · have := n1 y hy; omega
    all_goals
      subst e
      obtain ⟨t, g1, g2⟩ := h1
      simp only [GState.setT] at g1
      rw [List.getElem?_set_self hth, Option.some.injEq] at g1
      subst g1
      omega
  simp [b0, b1, b2, b3, b4, c4, c5, hg, hgl, d0, d1, d2, d3, d4, d5, d6, d7, d8, d9, d10]
  have q0 : nx5 ≠ A .c := by omega
  have q1 : nx5 + 1 ≠ A .c := by omega
  have q2 : nx5 ≠ nx + 1 := by omega
  have q3 : nx5 + 1 ≠ nx + 1 := by omega
  have q4 : A .c ≠ nx + 1 := by omega
  have q5 : A .c ≠ nx5 + 1 := by omega
  have q6 : nx5 ≠ nx5 + 1 := by omega
  with_reducible refine ⟨?_, ?_⟩
  all_goals
    refine and_of ?_ fun hs => fin _ _ (by omega) hs (fun q h1 h2 h3 h4 h5 => ?_) ?_ ?_ ?_
    · repeat' (first | exact sol5 | refine HSol.set ?_ ?_ | exact (newRs.set c2 (by simp)).sol | (simp; done))
    · repeat rw [Hp.set_ne _ _ (by assumption)]
    · repeat (first | rw [Hp.set_same] | rw [Hp.set_ne _ _ (by first | assumption | omega)])
    · repeat (first | rw [Hp.set_same] | rw [Hp.set_ne _ _ (by first | assumption | omega)])
    · repeat (first | rw [Hp.set_same] | rw [Hp.set_ne _ _ (by first | assumption | omega)])
theorem newRs.takeApp {R : List (List C)} (h : newRs R) {e : List C} (he : ∀ c ∈ e, c.newC = true) {n : Nat} : newRs (R.take n ++ [e]) := fun e' h' c hc => by
  rcases List.mem_append.1 h' with h' | h'
  · exact h e' (List.mem_of_mem_take h') c hc
  · rw [List.mem_singleton] at h'
    subst h'
    exact he c hc
structure GoOk (p : GProg) (f : GFrame) : Prop where
  fn0 : 0 ≤ f.fn
  fn1 : f.fn < p.fns.length
  fl : p.fns.length ≤ 60
  at0 : 0 ≤ f.at_
  at1 : f.at_ ≤ (fnAt p f.fn).code.length
  cl : (fnAt p f.fn).code.length ≤ 600
  reg : 0 < f.at_ → 0 ≤ ((fnAt p f.fn).code.getD (f.at_ - 1).toNat dIns).a ∧ ((fnAt p f.fn).code.getD (f.at_ - 1).toNat dIns).a < f.regs.length
theorem genGo_ok (p : GProg) (th g : Nat) (v : GVal) (to_ : Int) (e : GEvent) {s : GState} {A : Ad → Nat} {lo nP nS : Nat} {H : Hp} {nx : Nat} (hSol : HSol H) (hO : OwnS H lo A s) (hP : H nP = some ⟨.c 26, 3, [(eProg p).map .d]⟩) (hPn : ∀ x, Live s x → A x ≠ nP) (hS : H nS = some ⟨.c 32, 8, [oRow A s]⟩) (hSn : ∀ x, Live s x → A x ≠ nS)
    (hth : th < s.threads.length) (hg : g < s.cells.length) (hl : s.threads[th].frames.length ≤ 30) (hto : 0 ≤ to_ → ∃ k, ∃ hk : k < s.threads[th].frames.length, s.threads[th].frames.length = k + 1 ∧ to_ < s.threads[th].frames[k].regs.length) (hw : s.cells[g].num ≠ 2 → ∃ f, s.cells[g].frames = [f] ∧ GoOk p f) (hnx : lo ≤ nx) {K : D → Hp → Nat → Prop}
    (h0 : deepB s th g = true → ∀ H' nx', nx ≤ nx' → (∀ q, q < nx → H' q = H q) → HSol H' → K (.tup [.one (.d .emp), dB false]) H' nx')
    (h1 : deepB s th g = false → ∀ H' nx' A' c, nx ≤ nx' → (∀ q, q < nx → (∀ x, Live s x → q ≠ A x) → H' q = H q) → (∀ q, nx' ≤ q → H' q = none) → HSol H' → OwnS H' lo A' (goS p s th g v to_) → oRow A' (goS p s th g v to_) = oRow A s → (∀ x, Live (goS p s th g v to_) x → A' x ≠ nS) → Shw H' (fun q => nx ≤ q ∧ newAt H' q) c (.sl true ((goL s g v e).map eEvent)) → K (.tup [.one c, dB true]) H' nx') :
    ICall Tryz.prog 96 [.one (.ptr nP 3 0 0), .one (.ptr nS 8 0 0), dI th, dI g, aD (eVal v), dI to_, aD (eEvent e)] H nx K := by
  refine ICall.fresh (by kernel_rfl) fun hfr => ?_
  have n1 : ∀ x, Live s x → A x < nx := fun x hx => hO.lt hfr hx
  have pS := fresh_lt hfr hS
  have pP := fresh_lt hfr hP
  have hdT : dTh s th = s.threads[th] := by simp [dTh, List.getD_eq_getElem?_getD, hth]
  have hdC : dGC s g = s.cells[g] := by simp [dGC, List.getD_eq_getElem?_getD, hg]
  obtain ⟨R, r1, r2, r3⟩ := hO.th
  obtain ⟨r4, r5⟩ := List.getElem?_eq_some_iff.1 (r3 th hth)
  rw [oTh, thR] at r5
  obtain ⟨Q, c1, c2, c3⟩ := hO.ce
  obtain ⟨c4, c5⟩ := List.getElem?_eq_some_iff.1 (c3 g hg)
  rw [oCe, ceR] at c5
  have m1 := n1 .t trivial
  have m2 := n1 .c trivial
  have e1 : ¬ A .t = nx := by omega
  have e2 : ¬ A .t = nx + 1 := by omega
  have e3 : ¬ A .c = nx := by omega
  have e4 : ¬ A .c = nx + 1 := by omega
  have e5 : ¬ nS = nx := by omega
  have e6 : ¬ nS = nx + 1 := by omega
  have hS2 := hS
  rw [oRow] at hS2
  refine fnwi_ok [0,1,2,3,4,5,6,11,13,14,15,16,17,18,35,45,58] [(1, [0,1,3,7,0,31,0,64,192,448,0,1984,63,8191], (.seg 0 (.seg 1 (.seg 2 (.seg 3 (.seg 4 (.seg 5 (.seg 6 (.seg 7 (.seg 8 (.seg 9 (.seg 10 (.seg 11 (.seg 12 (.seg 13 .last))))))))))))))), (10, [0,1,0,4,12,28,0,64,252,508,1020,0,2048,6144,16380,32764,65532,0,262143,524287], (.seg 0 (.seg 1 (.seg 2 (.seg 3 (.seg 4 (.seg 5 (.seg 6 (.seg 7 (.seg 8 (.seg 9 (.seg 10 (.seg 11 (.seg 12 (.seg 13 (.seg 14 (.seg 15 (.seg 16 (.seg 17 (.seg 18 (.eff 19 [] .last))))))))))))))))))))), (12, [0,0,2,6,14,0,32,126,255,511,1023], (.seg 0 (.seg 1 (.seg 2 (.seg 3 (.seg 4 (.seg 5 (.eff 6 [2, 3, 4] (.eff 7 [] (.seg 8 (.seg 9 (.eff 10 [] .last)))))))))))), (13, [0,0,0,4,13,29,63,127], (.seg 0 (.seg 1 (.seg 2 (.eff 3 [1] (.seg 4 (.eff 5 [1] (.seg 6 (.eff 7 [] .last)))))))))] Tryz.func96 rfl (by kernel_rfl) rfl rfl rfl rfl (by kernel_rfl) ?_
  by_cases k2 : s.cells[g].num = 2
  · simp [hS2, r1, r4, r5, c1, c4, c5, e1, e2, e3, e4, e5, e6, hth, hg, k2]
    have hd0 : deepB s th g = false := by simp [deepB, hdC, k2]
    have n2 : ∀ x, Live s x → A x ≠ nx ∧ A x ≠ nx + 1 := fun x hx => by have := n1 x hx; omega
    have O1 := (hO.set_low (some ⟨.c 50, 2, [[.d (eI v.kind), .d (eI v.n)]]⟩) fun x hx => (n2 x hx).1).set_low (some ⟨.c 76, 12, [[C.d (eI e.kind), C.d (eI e.step), C.d (eI e.thread), C.d (eI e.fn), C.d (eI e.at_), C.d (eI e.line), C.d (eI e.a), C.d (eI e.b), C.d (eI e.val.kind), C.d (eI e.val.n), C.d (eI e.old.kind), C.d (eI e.old.n)]]⟩) fun x hx => (n2 x hx).2
    refine into_ok to_ ⟨0, 0⟩ (HSol.set (HSol.set hSol (by simp)) (by simp)) O1 hth hto (by omega) (fun H5 nx5 hn5 low5 high5 sol5 O5 => ?_)
    simp
    refine ⟨_, Wk.refl _, ?_⟩
    simp [retPI]
    have hgo : goS p s th g v to_ = s.setT th (intoT s.threads[th] to_ ⟨0, 0⟩) := by rw [goS, hdC, if_pos k2, hdT]
    have hlv : ∀ x, Live (s.setT th (intoT s.threads[th] to_ ⟨0, 0⟩)) x → Live s x := fun x hx => live_lessT hth (by unfold intoT; split <;> simp [GThread.setF]) hx
    refine ⟨sol5, h1 hd0 _ _ _ _ (by omega) (fun q g1 g2 => ?_) high5 sol5 (by rw [hgo]; exact O5) (by rw [hgo]; simp [oRow, GState.setT]) (fun x hx => hSn x (hlv x (by rw [hgo] at hx; exact hx))) ?_⟩
    · rw [low5 q (by omega) (fun j hj => g2 _ (live_tr hth hj)), Hp.set_ne _ _ (by omega), Hp.set_ne _ _ (by omega)]
    · rw [goL, hdC, if_pos k2]; exact .emp
  obtain ⟨f, hf, hgo⟩ := hw k2
  by_cases k3 : 30 ≤ s.threads[th].frames.length
  · have hd0 : deepB s th g = true := by simp [deepB, hdC, k2, hdT, k3]
    have k4 : (30 : Int) ≤ s.threads[th].frames.length := by omega
    simp [hS2, r1, r4, r5, c1, c4, c5, e1, e2, e3, e4, e5, e6, hth, hg, k2, k4]
    intro _
    refine ⟨_, Wk.refl _, ?_⟩
    simp [retPI]
    refine and_of ?_ fun hs => h0 hd0 _ _ (by omega) (fun q hq => ?_) hs
    · exact HSol.set (HSol.set hSol (by simp)) (by simp)
    · rw [Hp.set_ne _ _ (by omega), Hp.set_ne _ _ (by omega)]
  have k4 : ¬ (30 : Int) ≤ s.threads[th].frames.length := by omega
  have hd0 : deepB s th g = false := by simp [deepB, hdC, hdT]; omega
  have hfl : s.cells[g].frames.length = 1 := by rw [hf]; rfl
  have hg0 : 0 < s.cells[g].frames.length := by omega
  have hfe : s.cells[g].frames[0] = f := by simp [hf]
  obtain ⟨GR, f1, f2, f3⟩ := (hO.cf g hg).blk
  obtain ⟨f4, f5⟩ := List.getElem?_eq_some_iff.1 (f3 0 hg0)
  rw [hfe, frRow] at f5
  obtain ⟨FR, g1, g2, g3⟩ := (hO.tf th hth).blk
  obtain ⟨ys, y1⟩ := (hO.cf g hg).regs 0 hg0
  obtain ⟨zs, y2⟩ := (hO.cf g hg).tries 0 hg0
  rw [hfe] at y1 y2
  have y3 := y1
  rw [valBlk] at y3
  have m3 := n1 (.cf g) hg
  have m4 := n1 (.tf th) hth
  have m5 := n1 _ (live_cr hg hg0)
  have m6 := n1 _ (live_ct hg hg0)
  have e7 : ¬ A (.cf g) = nx := by omega
  have e8 : ¬ A (.cf g) = nx + 1 := by omega
  have e9 : ¬ A (.tf th) = nx := by omega
  have e10 : ¬ A (.tf th) = nx + 1 := by omega
  have e11 : ¬ A (.cr g 0) = nx := by omega
  have e12 : ¬ A (.cr g 0) = nx + 1 := by omega
  have hg01 : (0 : Nat) < GR.length := f4
  have hFl : s.threads[th].frames.length ≤ FR.length := rows_le g3
  have hgS : goS p s th g v to_ = (s.setC g ⟨s.cells[g].kind, 1, s.cells[g].vals, []⟩).setT th ⟨s.threads[th].frames ++ [goF p f g v to_], s.threads[th].state, s.threads[th].on, s.threads[th].val⟩ := by
    rw [goS, hdC, if_neg k2, hdT, hf]; rfl
  have hgL : goL s g v e = [genE e 16 g v] := by rw [goL, hdC, if_neg k2]
  have fin : ∀ (Hf : Hp) (n4 n5 n6 : Nat) (at' : Int), at' = f.at_ → nx ≤ n4 → n4 < n6 → nx ≤ n5 → n5 < n6 → n5 ≠ n4 → HSol Hf → (∀ q, q < nx → q ≠ A .c → q ≠ A .t → q ≠ A (.tf th) → q ≠ A (.cr g 0) → Hf q = H q) → (∀ q, n6 ≤ q → Hf q = none) →
      Hf (A .c) = some ⟨.c 48, 4, Q.set g [C.d (eI s.cells[g].kind), C.d (eI 1), C.own (A (.cv g)) 2 s.cells[g].vals.length, C.d .emp]⟩ → Hf (A .t) = some ⟨.c 56, 5, R.set th [C.own n4 8 (s.threads[th].frames.length + 1), C.d (eI s.threads[th].state), C.d (eI s.threads[th].on), C.d (eI s.threads[th].val.kind), C.d (eI s.threads[th].val.n)]⟩ →
      Hf n4 = some ⟨.c 61, 8, FR.take s.threads[th].frames.length ++ [[C.d (eI f.fn), C.d (eI at'), C.d (eI to_), C.d (eI g), C.d (eI f.self.kind), C.d (eI f.self.n), C.own (A (.cr g 0)) 2 f.regs.length, C.own (A (.ct g 0)) 2 f.tries.length]]⟩ → Hf (A (.cr g 0)) = some (valBlk ((goF p f g v to_).regs ++ ys)) → Hf n5 = some ⟨.c 76, 12, [evRow (genE e 16 g v)]⟩ →
      HSol ((Hf.set (A .c) (some ⟨.c 48, 4, Q.set g [C.d (eI s.cells[g].kind), C.d (eI 1), C.own (A (.cv g)) 2 s.cells[g].vals.length, C.own n6 8 0]⟩)).set n6 (some ⟨.c 61, 8, []⟩)) ∧
      K (.tup [.one (.own n5 12 1), dB true]) ((Hf.set (A .c) (some ⟨.c 48, 4, Q.set g [C.d (eI s.cells[g].kind), C.d (eI 1), C.own (A (.cv g)) 2 s.cells[g].vals.length, C.own n6 8 0]⟩)).set n6 (some ⟨.c 61, 8, []⟩)) (n6 + 1) := by
    intro Hf n4 n5 n6 at' hat h4 h46 h5 h56 h54 solf lowf highf hfc hft hf4 hfr5 hf5
    subst hat
    have hqn : newRs (Q.set g [C.d (eI s.cells[g].kind), C.d (eI 1), C.own (A (.cv g)) 2 s.cells[g].vals.length, C.own n6 8 0]) := c2.set (fun c hc => by simp at hc; rcases hc with rfl | rfl | rfl | rfl <;> rfl)
    have solF : HSol ((Hf.set (A .c) (some ⟨.c 48, 4, Q.set g [C.d (eI s.cells[g].kind), C.d (eI 1), C.own (A (.cv g)) 2 s.cells[g].vals.length, C.own n6 8 0]⟩)).set n6 (some ⟨.c 61, 8, []⟩)) := (solf.set hqn.sol).set (by simp)
    refine ⟨solF, ?_⟩
    have w0 : ∀ q, q ≠ A .c → q ≠ n6 → ((Hf.set (A .c) (some ⟨.c 48, 4, Q.set g [C.d (eI s.cells[g].kind), C.d (eI 1), C.own (A (.cv g)) 2 s.cells[g].vals.length, C.own n6 8 0]⟩)).set n6 (some ⟨.c 61, 8, []⟩)) q = Hf q := fun q h1 h2 => by rw [Hp.set_ne _ _ h2, Hp.set_ne _ _ h1]
    have w1 : ((Hf.set (A .c) (some ⟨.c 48, 4, Q.set g [C.d (eI s.cells[g].kind), C.d (eI 1), C.own (A (.cv g)) 2 s.cells[g].vals.length, C.own n6 8 0]⟩)).set n6 (some ⟨.c 61, 8, []⟩)) (A .c) = some ⟨.c 48, 4, Q.set g [C.d (eI s.cells[g].kind), C.d (eI 1), C.own (A (.cv g)) 2 s.cells[g].vals.length, C.own n6 8 0]⟩ := by rw [Hp.set_ne _ _ (by omega), Hp.set_same]
    have w2 : ((Hf.set (A .c) (some ⟨.c 48, 4, Q.set g [C.d (eI s.cells[g].kind), C.d (eI 1), C.own (A (.cv g)) 2 s.cells[g].vals.length, C.own n6 8 0]⟩)).set n6 (some ⟨.c 61, 8, []⟩)) n6 = some ⟨.c 61, 8, []⟩ := Hp.set_same _ _ _
    generalize ((Hf.set (A .c) (some ⟨.c 48, 4, Q.set g [C.d (eI s.cells[g].kind), C.d (eI 1), C.own (A (.cv g)) 2 s.cells[g].vals.length, C.own n6 8 0]⟩)).set n6 (some ⟨.c 61, 8, []⟩)) = Z at *
    have x0 : ∀ x, Live s x → A x ≠ n6 := fun x hx => by have := n1 x hx; omega
    have z0 : ∀ x, Live s x → x ≠ .c → x ≠ .t → x ≠ .tf th → x ≠ .cr g 0 → Z (A x) = H (A x) := fun x hx y1 y2 y3 y4 => by
      rw [w0 _ (hO.ne hx (y := .c) trivial y1) (x0 x hx), lowf _ (n1 x hx) (hO.ne hx (y := .c) trivial y1) (hO.ne hx (y := .t) trivial y2) (hO.ne hx (y := .tf th) hth y3) (hO.ne hx (live_cr hg hg0) y4)]
    -- the cell
    have O1 : OwnS ((H.set (A .c) (some ⟨.c 48, 4, Q.set g [C.d (eI s.cells[g].kind), C.d (eI 1), C.own (A (.cv g)) 2 s.cells[g].vals.length, C.own n6 8 0]⟩)).set n6 (some ⟨.c 61, 8, []⟩)) lo (withC A g (A (.cv g)) n6 (fun _ => 0) (fun _ => 0)) (s.setC g ⟨s.cells[g].kind, 1, s.cells[g].vals, []⟩) := by
      refine hO.newC hg (A (.cv g)) n6 _ _ (fun x hx h1 h2 => ?_) c1 ?_ ?_ ⟨⟨[], Hp.set_same _ _ _, (fun e he => by cases he), fun j hj => absurd hj (Nat.not_lt_zero _)⟩, fun j hj => absurd hj (Nat.not_lt_zero _), fun j hj => absurd hj (Nat.not_lt_zero _)⟩ (x0 (.cv g) hg) (fun j hj => absurd hj (Nat.not_lt_zero _)) ⟨fun j hj => absurd hj (Nat.not_lt_zero _), fun j k hj => absurd hj (Nat.not_lt_zero _), fun j k hj => absurd hj (Nat.not_lt_zero _), fun j k hj => absurd hj (Nat.not_lt_zero _)⟩
        (fun x hx h1 => ⟨hO.ne hx (y := .cv g) hg (fun e => h1 (by rw [e]; exact rfl)), x0 x hx, fun j hj => absurd hj (Nat.not_lt_zero _)⟩) ⟨hO.lo (.cv g) hg, by omega, fun j hj => absurd hj (Nat.not_lt_zero _)⟩
      · rw [Hp.set_ne _ _ (x0 x hx), Hp.set_ne _ _ (hO.ne hx (y := .c) trivial h2)]
      · rw [Hp.set_ne _ _ (x0 .c trivial), Hp.set_same]; rfl
      · obtain ⟨us, h1⟩ := hO.cv g hg
        exact ⟨us, by rw [Hp.set_ne _ _ (x0 (.cv g) hg), Hp.set_ne _ _ (hO.ne (x := .cv g) hg (y := .c) trivial (fun e => by cases e))]; exact h1⟩
    have hl1 : ∀ x, Live (s.setC g ⟨s.cells[g].kind, 1, s.cells[g].vals, []⟩) x → Live s x := fun x hx => live_lessC hg (by simp) hx
    have hnc : ∀ j, ¬ Live (s.setC g ⟨s.cells[g].kind, 1, s.cells[g].vals, []⟩) (.cr g j) ∧ ¬ Live (s.setC g ⟨s.cells[g].kind, 1, s.cells[g].vals, []⟩) (.ct g j) := fun j => by
      have : (s.setC g ⟨s.cells[g].kind, 1, s.cells[g].vals, []⟩).cells[g]? = some ⟨s.cells[g].kind, 1, s.cells[g].vals, []⟩ := by simp only [GState.setC]; exact List.getElem?_set_self hg
      constructor
      all_goals
        rintro ⟨c, y1, y2⟩
        rw [this, Option.some.injEq] at y1
        subst y1
        exact absurd y2 (Nat.not_lt_zero _)
    have hA1 : ∀ x, Live (s.setC g ⟨s.cells[g].kind, 1, s.cells[g].vals, []⟩) x → (x = .cf g ∧ withC A g (A (.cv g)) n6 (fun _ => 0) (fun _ => 0) x = n6) ∨ (x ≠ .cf g ∧ x ≠ .cr g 0 ∧ x ≠ .ct g 0 ∧ Live s x ∧ withC A g (A (.cv g)) n6 (fun _ => 0) (fun _ => 0) x = A x) := fun x hx => by
      by_cases hc : ofC g x
      · cases x <;> simp only [ofC] at hc
        · subst hc; exact .inr ⟨(fun e => by cases e), (fun e => by cases e), (fun e => by cases e), hg, by simp [withC]⟩
        · subst hc; exact .inl ⟨rfl, by simp [withC]⟩
        · subst hc; exact absurd hx (hnc _).1
        · subst hc; exact absurd hx (hnc _).2
      · exact .inr ⟨fun e => hc (by rw [e]; exact rfl), fun e => hc (by rw [e]; exact rfl), fun e => hc (by rw [e]; exact rfl), hl1 x hx, withC_out hc⟩
    have hthl : ∀ j, j < s.threads[th].frames.length → Live s (.tr th j) ∧ Live s (.tt th j) := fun j hj => ⟨live_tr hth hj, live_tt hth hj⟩
    have cr0 := live_cr hg hg0
    have ct0 := live_ct hg hg0
    have hlen2 : (s.threads[th].frames ++ [goF p f g v to_]).length = s.threads[th].frames.length + 1 := by simp
    have hb2 : ∀ j, (if j < s.threads[th].frames.length then A (.tr th j) else A (.cr g 0)) < nx ∧ (if j < s.threads[th].frames.length then A (.tt th j) else A (.ct g 0)) < nx := fun j => by
      by_cases y : j < s.threads[th].frames.length
      · simp only [y, if_true]; exact ⟨n1 _ (hthl j y).1, n1 _ (hthl j y).2⟩
      · simp only [y, if_false]; exact ⟨n1 _ cr0, n1 _ ct0⟩
    have hlo3 : ∀ j, lo ≤ (if j < s.threads[th].frames.length then A (.tr th j) else A (.cr g 0)) ∧ lo ≤ (if j < s.threads[th].frames.length then A (.tt th j) else A (.ct g 0)) := fun j => by
      by_cases y : j < s.threads[th].frames.length
      · simp only [y, if_true]; exact ⟨hO.lo _ (hthl j y).1, hO.lo _ (hthl j y).2⟩
      · simp only [y, if_false]; exact ⟨hO.lo _ cr0, hO.lo _ ct0⟩
    have hL2 : LocF (s.threads[th].frames ++ [goF p f g v to_]).length n4 (fun j => if j < s.threads[th].frames.length then A (.tr th j) else A (.cr g 0)) (fun j => if j < s.threads[th].frames.length then A (.tt th j) else A (.ct g 0)) := by
      refine ⟨fun j hj => ?_, fun j k hj hk => ?_, fun j k hj hk e => ?_, fun j k hj hk e => ?_⟩
      · have := hb2 j
        exact ⟨by omega, by omega⟩
      · by_cases y : j < s.threads[th].frames.length <;> by_cases y' : k < s.threads[th].frames.length <;> simp only [y, y', if_true, if_false]
        · exact hO.ne (hthl j y).1 (hthl k y').2 (fun e => by cases e)
        · exact hO.ne (hthl j y).1 ct0 (fun e => by cases e)
        · exact hO.ne cr0 (hthl k y').2 (fun e => by cases e)
        · exact hO.ne cr0 ct0 (fun e => by cases e)
      · by_cases y : j < s.threads[th].frames.length <;> by_cases y' : k < s.threads[th].frames.length <;> simp only [y, y', if_true, if_false] at e
        · have := hO.inj _ _ (hthl j y).1 (hthl k y').1 e; injection this
        · exact absurd e (hO.ne (hthl j y).1 cr0 (fun e => by cases e))
        · exact absurd e.symm (hO.ne (hthl k y').1 cr0 (fun e => by cases e))
        · omega
      · by_cases y : j < s.threads[th].frames.length <;> by_cases y' : k < s.threads[th].frames.length <;> simp only [y, y', if_true, if_false] at e
        · have := hO.inj _ _ (hthl j y).2 (hthl k y').2 e; injection this
        · exact absurd e (hO.ne (hthl j y).2 ct0 (fun e => by cases e))
        · exact absurd e.symm (hO.ne (hthl k y').2 ct0 (fun e => by cases e))
        · omega
    have hout2 : ∀ x, Live (s.setC g ⟨s.cells[g].kind, 1, s.cells[g].vals, []⟩) x → ¬ ofT th x → withC A g (A (.cv g)) n6 (fun _ => 0) (fun _ => 0) x ≠ n4 ∧ ∀ j, j < (s.threads[th].frames ++ [goF p f g v to_]).length → withC A g (A (.cv g)) n6 (fun _ => 0) (fun _ => 0) x ≠ (fun j => if j < s.threads[th].frames.length then A (.tr th j) else A (.cr g 0)) j ∧ withC A g (A (.cv g)) n6 (fun _ => 0) (fun _ => 0) x ≠ (fun j => if j < s.threads[th].frames.length then A (.tt th j) else A (.ct g 0)) j := fun x hx y1 => by
      rcases hA1 x hx with ⟨-, y3⟩ | ⟨y4, y5, y6, y7, y3⟩ <;> rw [y3]
      · refine ⟨by omega, fun j hj => ?_⟩
        have := hb2 j
        exact ⟨by simp only; omega, by simp only; omega⟩
      · have y8 := n1 x y7
        refine ⟨by omega, fun j hj => ?_⟩
        simp only
        by_cases y : j < s.threads[th].frames.length <;> simp only [y, if_true, if_false]
        · exact ⟨hO.ne y7 (hthl j y).1 (fun e => y1 (by rw [e]; exact rfl)), hO.ne y7 (hthl j y).2 (fun e => y1 (by rw [e]; exact rfl))⟩
        · exact ⟨hO.ne y7 cr0 y5, hO.ne y7 ct0 y6⟩
    have hlo2 : lo ≤ n4 ∧ ∀ j, j < (s.threads[th].frames ++ [goF p f g v to_]).length → lo ≤ (fun j => if j < s.threads[th].frames.length then A (.tr th j) else A (.cr g 0)) j ∧ lo ≤ (fun j => if j < s.threads[th].frames.length then A (.tt th j) else A (.ct g 0)) j := ⟨by omega, fun j _ => hlo3 j⟩
    have O2 := O1.newT (H' := Z) (i := th) (c' := ⟨s.threads[th].frames ++ [goF p f g v to_], s.threads[th].state, s.threads[th].on, s.threads[th].val⟩) hth n4 (fun j => if j < s.threads[th].frames.length then A (.tr th j) else A (.cr g 0)) (fun j => if j < s.threads[th].frames.length then A (.tt th j) else A (.ct g 0))
      (fun x hx y1 y2 => by
        rcases hA1 x hx with ⟨rfl, y3⟩ | ⟨y4, y5, y6, y7, y3⟩ <;> rw [y3]
        · rw [w2, Hp.set_same]
        · by_cases y8 : x = .c
          · subst y8
            rw [w1, Hp.set_ne _ _ (x0 .c trivial), Hp.set_same]
          · rw [z0 x y7 y8 y2 (fun e => y1 (by rw [e]; exact rfl)) y5, Hp.set_ne _ _ (x0 x y7), Hp.set_ne _ _ (hO.ne y7 (y := .c) trivial y8)])
      (R := R) (by
        show Hp.set _ _ _ (A .t) = _
        rw [Hp.set_ne _ _ (x0 .t trivial), Hp.set_ne _ _ (hO.ne (x := .t) trivial (y := .c) trivial (fun e => by cases e))]; exact r1)
      (by
        show Z (A .t) = _
        rw [w0 _ (hO.ne (x := .t) trivial (y := .c) trivial (fun e => by cases e)) (x0 .t trivial), hft]
        simp [thR])
      (by
        obtain ⟨FR2, a1, a2, a3⟩ := (hO.tf th hth).blk
        rw [g1] at a1
        simp only [Option.some.injEq, Blk.mk.injEq, true_and] at a1
        subst a1
        have htk : (FR.take s.threads[th].frames.length).length = s.threads[th].frames.length := by simp; omega
        refine ⟨⟨_, by rw [w0 _ (by omega) (by omega)]; exact hf4, fun e he c hc => ?_, fun j hj => ?_⟩, fun j hj => ?_, fun j hj => ?_⟩
        · rcases List.mem_append.1 he with he | he
          · exact a2 e (List.mem_of_mem_take he) c hc
          · rw [List.mem_singleton] at he
            subst he
            simp at hc
            rcases hc with rfl | rfl | rfl | rfl | rfl | rfl | rfl | rfl <;> rfl
        · rcases Nat.lt_or_ge j s.threads[th].frames.length with hj2 | hj2
          · rw [List.getElem?_append_left (by omega), List.getElem?_take, if_pos hj2, List.getElem_append_left hj2, if_pos hj2, if_pos hj2]
            exact a3 j hj2
          · obtain rfl : j = s.threads[th].frames.length := by simp at hj; omega
            rw [List.getElem?_append_right (by omega), htk, Nat.sub_self, if_neg (by omega), if_neg (by omega)]
            have hgl2 : (goF p f g v to_).regs.length = f.regs.length := by simp only [goF]; split <;> simp
            simp [frRow, goF] at hgl2 ⊢
            exact hgl2.symm
        · rcases Nat.lt_or_ge j s.threads[th].frames.length with hj2 | hj2
          · obtain ⟨us, y1⟩ := (hO.tf th hth).regs j hj2
            simp only [hj2, if_true]
            exact ⟨us, by rw [z0 _ (hthl j hj2).1 (fun e => by cases e) (fun e => by cases e) (fun e => by cases e) (fun e => by cases e), List.getElem_append_left hj2]; exact y1⟩
          · obtain rfl : j = s.threads[th].frames.length := by simp at hj; omega
            simp only [Nat.lt_irrefl, if_false]
            exact ⟨ys, by rw [w0 _ (hO.ne cr0 (y := .c) trivial (fun e => by cases e)) (x0 _ cr0)]; simpa using hfr5⟩
        · rcases Nat.lt_or_ge j s.threads[th].frames.length with hj2 | hj2
          · obtain ⟨us, y1⟩ := (hO.tf th hth).tries j hj2
            simp only [hj2, if_true]
            exact ⟨us, by rw [z0 _ (hthl j hj2).2 (fun e => by cases e) (fun e => by cases e) (fun e => by cases e) (fun e => by cases e), List.getElem_append_left hj2]; exact y1⟩
          · obtain rfl : j = s.threads[th].frames.length := by simp at hj; omega
            simp only [Nat.lt_irrefl, if_false]
            exact ⟨zs, by rw [z0 _ ct0 (fun e => by cases e) (fun e => by cases e) (fun e => by cases e) (fun e => by cases e)]; simpa [goF] using y2⟩)
      hL2 hout2 hlo2
    have hA2 : ∀ x, Live (goS p s th g v to_) x → withT (withC A g (A (.cv g)) n6 (fun _ => 0) (fun _ => 0)) th n4 (fun j => if j < s.threads[th].frames.length then A (.tr th j) else A (.cr g 0)) (fun j => if j < s.threads[th].frames.length then A (.tt th j) else A (.ct g 0)) x ≠ nS := fun x hx => by
      rw [hgS] at hx
      by_cases hc : ofT th x
      · cases x <;> simp only [ofT] at hc
        · subst hc; simp only [withT, if_true]; omega
        · subst hc; simp only [withT, if_true]; split
          · rename_i y; exact hSn _ (live_tr hth y)
          · exact hSn _ cr0
        · subst hc; simp only [withT, if_true]; split
          · rename_i y; exact hSn _ (live_tt hth y)
          · exact hSn _ ct0
      · rw [withT_out hc]
        rcases hA1 x ((live_setT hc).1 hx) with ⟨-, y3⟩ | ⟨-, -, -, y7, y3⟩ <;> rw [y3]
        · omega
        · exact hSn x y7
    refine h1 hd0 Z _ _ _ (by omega) (fun q y1 y2 => ?_) (fun q y1 => ?_) solF (by rw [hgS]; exact O2) ?_ hA2 ?_
    · rw [w0 q (y2 .c trivial) (by omega), lowf q y1 (y2 .c trivial) (y2 .t trivial) (y2 (.tf th) hth) (y2 _ cr0)]
    · rw [w0 q (by omega) (by omega)]; exact highf q (by omega)
    · rw [hgS]; simp [oRow, withT, withC, GState.setT, GState.setC]
    · rw [hgL]
      have hz5 : Z n5 = some ⟨.c 76, 12, [evRow (genE e 16 g v)]⟩ := by rw [w0 _ (by omega) (by omega)]; exact hf5
      refine Shw.row ⟨h5, .of hz5 fun e' he c hc => ?_⟩ hz5 rfl rfl rfl (by simp) (by simp)
      rw [List.mem_singleton] at he
      subst he
      simp [evRow] at hc
      rcases hc with rfl | rfl | rfl | rfl | rfl | rfl | rfl | rfl | rfl | rfl | rfl | rfl <;> rfl
  have pP1 : ¬ nP = nx := by omega
  have pP2 : ¬ nP = nx + 1 := by omega
  have pP3 : ¬ nP = nx + 2 := by omega
  have e13 : ¬ A (.cr g 0) = nx + 2 := by omega
  have e14 : ¬ A .c = nx + 2 := by omega
  have e15 : ¬ A .t = nx + 2 := by omega
  have e16 : ¬ A (.tf th) = nx + 2 := by omega
  have e17 : ¬ nx = nx + 2 := by omega
  have u0 : ¬ A .c = A .t := hO.ne (x := .c) (y := .t) trivial trivial (fun e => by cases e)
  have u1 : ¬ A .c = A (.tf th) := hO.ne (x := .c) (y := .tf th) trivial hth (fun e => by cases e)
  have u2 : ¬ A .c = A (.cr g 0) := hO.ne (x := .c) (y := .cr g 0) trivial (live_cr hg hg0) (fun e => by cases e)
  have u3 : ¬ A .t = A .c := hO.ne (x := .t) (y := .c) trivial trivial (fun e => by cases e)
  have u4 : ¬ A .t = A (.tf th) := hO.ne (x := .t) (y := .tf th) trivial hth (fun e => by cases e)
  have u5 : ¬ A .t = A (.cr g 0) := hO.ne (x := .t) (y := .cr g 0) trivial (live_cr hg hg0) (fun e => by cases e)
  have u6 : ¬ A (.tf th) = A .c := hO.ne (x := .tf th) (y := .c) hth trivial (fun e => by cases e)
  have u7 : ¬ A (.tf th) = A .t := hO.ne (x := .tf th) (y := .t) hth trivial (fun e => by cases e)
  have u8 : ¬ A (.tf th) = A (.cr g 0) := hO.ne (x := .tf th) (y := .cr g 0) hth (live_cr hg hg0) (fun e => by cases e)
  have u9 : ¬ A (.cr g 0) = A .c := hO.ne (x := .cr g 0) (y := .c) (live_cr hg hg0) trivial (fun e => by cases e)
  have u10 : ¬ A (.cr g 0) = A .t := hO.ne (x := .cr g 0) (y := .t) (live_cr hg hg0) trivial (fun e => by cases e)
  have u11 : ¬ A (.cr g 0) = A (.tf th) := hO.ne (x := .cr g 0) (y := .tf th) (live_cr hg hg0) hth (fun e => by cases e)
  have u12 : ¬ nx = A .c := by omega
  have u13 : ¬ nx + 1 = A .c := by omega
  have u14 : ¬ nx + 2 = A .c := by omega
  have u15 : ¬ nx + 3 = A .c := by omega
  have u16 : ¬ nx + 4 = A .c := by omega
  have u17 : ¬ A .c = nx + 3 := by omega
  have u18 : ¬ A .c = nx + 4 := by omega
  have u19 : ¬ nx = A .t := by omega
  have u20 : ¬ nx + 1 = A .t := by omega
  have u21 : ¬ nx + 2 = A .t := by omega
  have u22 : ¬ nx + 3 = A .t := by omega
  have u23 : ¬ nx + 4 = A .t := by omega
  have u24 : ¬ A .t = nx + 3 := by omega
  have u25 : ¬ A .t = nx + 4 := by omega
  have u26 : ¬ nx = A (.tf th) := by omega
  have u27 : ¬ nx + 1 = A (.tf th) := by omega
  have u28 : ¬ nx + 2 = A (.tf th) := by omega
  have u29 : ¬ nx + 3 = A (.tf th) := by omega
  have u30 : ¬ nx + 4 = A (.tf th) := by omega
  have u31 : ¬ A (.tf th) = nx + 3 := by omega
  have u32 : ¬ A (.tf th) = nx + 4 := by omega
  have u33 : ¬ nx = A (.cr g 0) := by omega
  have u34 : ¬ nx + 1 = A (.cr g 0) := by omega
  have u35 : ¬ nx + 2 = A (.cr g 0) := by omega
  have u36 : ¬ nx + 3 = A (.cr g 0) := by omega
  have u37 : ¬ nx + 4 = A (.cr g 0) := by omega
  have u38 : ¬ A (.cr g 0) = nx + 3 := by omega
  have u39 : ¬ A (.cr g 0) = nx + 4 := by omega
  obtain ⟨w1, w2, w3, w4, w5, w6, w7⟩ := hgo
  have hfa := fn_at w1 w2
  by_cases k5 : 0 < f.at_
  · obtain ⟨w8, w9⟩ := w7 k5
    obtain ⟨j, hj⟩ : ∃ j : Nat, f.at_ = j + 1 := ⟨(f.at_ - 1).toNat, by omega⟩
    have hjn : (f.at_ - 1).toNat = j := by omega
    rw [hjn] at w8 w9
    have hjl : j < (fnAt p f.fn).code.length := by omega
    have hco : (fnAt p f.fn).code[j]? = some ((fnAt p f.fn).code.getD j dIns) := by
      rw [List.getD_eq_getElem?_getD, List.getElem?_eq_getElem hjl]; rfl
    generalize hins : (fnAt p f.fn).code.getD j dIns = ins at *
    obtain ⟨a, ha⟩ : ∃ a : Nat, ins.a = a := ⟨ins.a.toNat, by omega⟩
    have hal : a < f.regs.length := by omega
    have g4 := vrow_get (ys := ys) hal
    have g5 := vrow_set (ys := ys) hal v
    generalize hL : ((f.regs ++ ys).map fun v => (eVal v).map C.d) = L at *
    obtain ⟨g6, g7⟩ := List.getElem?_eq_some_iff.1 g4
    generalize hfq : fnAt p f.fn = fq at *
    have hwj : IntKind.i64.wrap (j : Int) = j := wrap_id (by omega) (by omega)
    simp [hS2, r1, r4, r5, c1, c4, c5, e1, e2, e3, e4, e5, e6, hth, hg, k2, k4, hfl, f1, f5, e7, e8, hg01, hP, pP1, pP2, pP3, e9, e10, e11, e12, e13, e14, e15, e16, e17, w1, hfa, hj, hwj, hco, ha, hal, y3, g6, g7, g1, hFl, u0, u1, u2, u3, u4, u5, u6, u7, u8, u9, u10, u11, u12, u13, u14, u15, u16, u17, u18, u19, u20, u21, u22, u23, u24, u25, u26, u27, u28, u29, u30, u31, u32, u33, u34, u35, u36, u37, u38, u39, Nat.add_assoc]
    have hgr : (goF p f g v to_).regs = f.regs.set a v := by
      simp only [goF]
      rw [if_pos k5, hfq, hjn, hins, ha]; rfl
    intro _
    refine ⟨fun m b em hm => ?_, .inl (by omega), ?_⟩
    · subst em
      simp [g1, u0, u1, u2, u3, u4, u5, u6, u7, u8, u9, u10, u11, u12, u13, u14, u15, u16, u17, u18, u19, u20, u21, u22, u23, u24, u25, u26, u27, u28, u29, u30, u31, u32, u33, u34, u35, u36, u37, u38, u39, e9, e10, e16] at hm
      subst hm
      exact ⟨rfl, rfl⟩
    refine ⟨_, Wk.ownC 61 8 (m := A .c) (t := .c 48) (k := 4) (R := Q.set g [C.d (eI s.cells[g].kind), C.d (eI 1), C.own (A (.cv g)) 2 s.cells[g].vals.length, C.d .emp]) (row := [C.d (eI s.cells[g].kind), C.d (eI 1), C.own (A (.cv g)) 2 s.cells[g].vals.length, C.d .emp]) (i := g) (j := 3) (by repeat (first | rw [Hp.set_same] | rw [Hp.set_ne _ _ (by first | assumption | omega)])) (List.getElem?_set_self c4) rfl, ?_⟩
    simp [retPI]
    refine fin _ (nx + 4) (nx + 5) (nx + 6) (j + 1) hj.symm (by omega) (by omega) (by omega) (by omega) (by omega) ?_ (fun q q1 q2 q3 q4 q5 => ?_) (fun q hq => ?_) ?_ ?_ ?_ ?_ ?_
    · repeat' (first | exact hSol | refine HSol.none ?_ | refine HSol.set ?_ ?_ | exact (newRs.set c2 (by simp)).sol | exact (newRs.set r2 (by simp)).sol | exact (newRs.takeApp g2 (by simp)).sol | (simp; done) | (rw [g5]; exact (valBlk_new _).sol))
    · repeat rw [Hp.set_ne _ _ (by first | assumption | omega)]
    · repeat rw [Hp.set_ne _ _ (by omega)]
      exact hfr q (by omega)
    all_goals (repeat (first | rw [Hp.set_same] | rw [Hp.set_ne _ _ (by first | assumption | omega)]))
    · rw [hgr, valBlk, ← g5]
    · rfl
  have hgr : (goF p f g v to_).regs = f.regs := by
    simp only [goF]
    rw [if_neg k5]
  simp [hS2, r1, r4, r5, c1, c4, c5, e1, e2, e3, e4, e5, e6, hth, hg, k2, k4, hfl, f1, f5, e7, e8, hg01, hP, pP1, pP2, pP3, e9, e10, e11, e12, e13, e14, e15, e16, e17, k5, g1, hFl, u0, u1, u2, u3, u4, u5, u6, u7, u8, u9, u10, u11, u12, u13, u14, u15, u16, u17, u18, u19, u20, u21, u22, u23, u24, u25, u26, u27, u28, u29, u30, u31, u32, u33, u34, u35, u36, u37, u38, u39, Nat.add_assoc]
  intro _
  refine ⟨fun m b em hm => ?_, .inl (by omega), ?_⟩
  · subst em
    simp [g1, u0, u1, u2, u3, u4, u5, u6, u7, u8, u9, u10, u11, u12, u13, u14, u15, u16, u17, u18, u19, u20, u21, u22, u23, u24, u25, u26, u27, u28, u29, u30, u31, u32, u33, u34, u35, u36, u37, u38, u39, e9, e10, e16] at hm
    subst hm
    exact ⟨rfl, rfl⟩
  refine ⟨_, Wk.ownC 61 8 (m := A .c) (t := .c 48) (k := 4) (R := Q.set g [C.d (eI s.cells[g].kind), C.d (eI 1), C.own (A (.cv g)) 2 s.cells[g].vals.length, C.d .emp]) (row := [C.d (eI s.cells[g].kind), C.d (eI 1), C.own (A (.cv g)) 2 s.cells[g].vals.length, C.d .emp]) (i := g) (j := 3) (by repeat (first | rw [Hp.set_same] | rw [Hp.set_ne _ _ (by first | assumption | omega)])) (List.getElem?_set_self c4) rfl, ?_⟩
  simp [retPI]
  refine fin _ (nx + 4) (nx + 5) (nx + 6) f.at_ rfl (by omega) (by omega) (by omega) (by omega) (by omega) ?_ (fun q q1 q2 q3 q4 q5 => ?_) (fun q hq => ?_) ?_ ?_ ?_ ?_ ?_
  · repeat' (first | exact hSol | refine HSol.none ?_ | refine HSol.set ?_ ?_ | exact (newRs.set c2 (by simp)).sol | exact (newRs.set r2 (by simp)).sol | exact (newRs.takeApp g2 (by simp)).sol | (simp; done))
  · repeat rw [Hp.set_ne _ _ (by first | assumption | omega)]
  · repeat rw [Hp.set_ne _ _ (by omega)]
    exact hfr q (by omega)
  all_goals (repeat (first | rw [Hp.set_same] | rw [Hp.set_ne _ _ (by first | assumption | omega)]))
  · rw [hgr]; exact y1
  · rfl
theorem FsAt.toB {H : Hp} {N : Nat → Prop} {nF : Nat} {r t : Nat → Nat} {fs : List GFrame} {FR : List (List C)} (h : FsAt H N nF r t fs FR) : FrB H nF r t fs :=
  ⟨⟨_, h.blk, h.new, h.row⟩, fun j hj => ⟨[], by rw [List.append_nil]; exact h.regs j hj⟩, fun j hj => (h.tries j hj).2⟩
abbrev ceV (c : GCell) : Nat := 5 + 5 * c.frames.length
structure CeX (H : Hp) (b nC k : Nat) (cs : List GCell) (CR : List (List C)) : Prop where
  blk : H nC = some ⟨.c 48, 4, CR⟩
  len : CR.length = k
  new : newRs CR
  row : ∀ (i : Nat) (h : i < cs.length), i < k → CR[i]? = some (ceR (.own (b + off ceV cs i + 1) 2 cs[i].vals.length) (.own (b + off ceV cs i + 2 + 5 * cs[i].frames.length) 8 cs[i].frames.length) cs[i])
  vals : ∀ (i : Nat) (h : i < cs.length), i < k → H (b + off ceV cs i + 1) = some (valBlk cs[i].vals)
  frs : ∀ (i : Nat) (h : i < cs.length), i < k → FrB H (b + off ceV cs i + 2 + 5 * cs[i].frames.length) (rD (b + off ceV cs i + 2)) (tD (b + off ceV cs i + 2)) cs[i].frames
theorem CeX.low {H H' : Hp} {b nC k : Nat} {cs : List GCell} {CR : List (List C)} (h : CeX H b nC k cs CR) (hk : k ≤ cs.length) (hl : ∀ q, b ≤ q → q < b + off ceV cs k - 1 → H' q = H q) (hc : H' nC = H nC) : CeX H' b nC k cs CR := by
  have key : ∀ (i : Nat) (hi : i < cs.length), i < k → off ceV cs i + (5 + 5 * cs[i].frames.length) ≤ off ceV cs k := fun i hi hk => off_lt (g := ceV) hk hi
  refine ⟨by rw [hc]; exact h.blk, h.len, h.new, h.row, fun i hi hk => ?_, fun i hi hk => ?_⟩
  · have := key i hi hk
    rw [hl _ (by omega) (by omega)]; exact h.vals i hi hk
  · have := key i hi hk
    exact (h.frs i hi hk).low (hl _ (by omega) (by omega)) (fun j hj => hl _ (by simp only [rD]; omega) (by simp only [rD]; omega)) fun j hj => hl _ (by simp only [tD]; omega) (by simp only [tD]; omega)
theorem CeX.app {H H' : Hp} {b nC nC' k : Nat} {cs : List GCell} {CR : List (List C)} (h : CeX H b nC k cs CR) (hk : k < cs.length) (hl : ∀ q, b ≤ q → q < b + off ceV cs k - 1 → H' q = H q)
    (hb : H' nC' = some ⟨.c 48, 4, CR ++ [ceR (.own (b + off ceV cs k + 1) 2 cs[k].vals.length) (.own (b + off ceV cs k + 2 + 5 * cs[k].frames.length) 8 cs[k].frames.length) cs[k]]⟩) (hv : H' (b + off ceV cs k + 1) = some (valBlk cs[k].vals))
    (hf : FrB H' (b + off ceV cs k + 2 + 5 * cs[k].frames.length) (rD (b + off ceV cs k + 2)) (tD (b + off ceV cs k + 2)) cs[k].frames) : CeX H' b nC' (k + 1) cs (CR ++ [ceR (.own (b + off ceV cs k + 1) 2 cs[k].vals.length) (.own (b + off ceV cs k + 2 + 5 * cs[k].frames.length) 8 cs[k].frames.length) cs[k]]) := by
  have key : ∀ (i : Nat) (hi : i < cs.length), i < k → off ceV cs i + (5 + 5 * cs[i].frames.length) ≤ off ceV cs k := fun i hi hk => off_lt (g := ceV) hk hi
  have hlen := h.len
  refine ⟨hb, by simp [hlen], fun e he x hx => ?_, fun i hi hik => ?_, fun i hi hik => ?_, fun i hi hik => ?_⟩
  · rcases List.mem_append.1 he with he | he
    · exact h.new e he x hx
    · rw [List.mem_singleton] at he
      subst he
      simp [ceR] at hx
      rcases hx with rfl | rfl | rfl | rfl <;> rfl
  · by_cases e : i = k
    · subst e
      rw [List.getElem?_append_right (by omega)]; simp [hlen]
    · rw [List.getElem?_append_left (by omega)]; exact h.row i hi (by omega)
  · by_cases e : i = k
    · subst e; exact hv
    · have := key i hi (by omega)
      rw [hl _ (by omega) (by omega)]; exact h.vals i hi (by omega)
  · by_cases e : i = k
    · subst e; exact hf
    · have := key i hi (by omega)
      exact (h.frs i hi (by omega)).low (hl _ (by omega) (by omega)) (fun j hj => hl _ (by simp only [rD]; omega) (by simp only [rD]; omega)) fun j hj => hl _ (by simp only [tD]; omega) (by simp only [tD]; omega)
structure CeD2 (H0 : Hp) (m : Nat) (s : GState) (x : HN) : Prop where
  hk : x.k ≤ s.cells.length
  hn : x.nx = m + 3 + off ceV s.cells x.k
  box : x.H m = some ⟨.c 32, 8, [(eState s).map .d]⟩
  res : x.H (m + 1) = some ⟨.c 32, 8, [nilS]⟩
  ce : ∃ CR, CeX x.H (m + 3) (x.nx - 1) x.k s.cells CR
  low : ∀ i, i < m → x.H i = H0 i
  high : ∀ i, x.nx ≤ i → x.H i = none
  sol : HSol x.H
structure ThD2 (H0 : Hp) (m e : Nat) (s : GState) (x : HN) : Prop where
  hk : x.k ≤ s.threads.length
  he : e = m + 4 + off ceV s.cells s.cells.length
  hn : x.nx = e + off thV s.threads x.k
  box : x.H m = some ⟨.c 32, 8, [(eState s).map .d]⟩
  res : x.H (m + 1) = some ⟨.c 32, 8, [nilS]⟩
  ce : ∃ CR, CeX x.H (m + 3) (e - 2) s.cells.length s.cells CR
  th : ∃ TR, x.H (x.nx - 1) = some ⟨.c 56, 5, TR⟩ ∧ TR.length = x.k ∧ ∀ (i : Nat) (h : i < s.threads.length), i < x.k → TR[i]? = some (thR (.own (e + off thV s.threads i + 1 + 5 * s.threads[i].frames.length) 8 s.threads[i].frames.length) s.threads[i]) ∧
    ∃ FR, FsAt x.H (nD (e + off thV s.threads i + 1) s.threads[i].frames.length) (e + off thV s.threads i + 1 + 5 * s.threads[i].frames.length) (rD (e + off thV s.threads i + 1)) (tD (e + off thV s.threads i + 1)) s.threads[i].frames FR
  low : ∀ i, i < m → x.H i = H0 i
  high : ∀ i, x.nx ≤ i → x.H i = none
  sol : HSol x.H
def layD (m m1 m2 : Nat) (s : GState) : Ad → Nat
  | .c => m1
  | .sh => m2 + 1
  | .tx => m2 + 2
  | .t => m2
  | .en => m2 + 3
  | .sa => m2 + 4
  | .cv i => m + 3 + off ceV s.cells i + 1
  | .cf i => m + 3 + off ceV s.cells i + 2 + 5 * (s.cells.getD i dCell).frames.length
  | .cr i j => m + 3 + off ceV s.cells i + 2 + 2 + 5 * j
  | .ct i j => m + 3 + off ceV s.cells i + 2 + 3 + 5 * j
  | .tf i => m1 + 2 + off thV s.threads i + 1 + 5 * (s.threads.getD i dThread).frames.length
  | .tr i j => m1 + 2 + off thV s.threads i + 1 + 2 + 5 * j
  | .tt i j => m1 + 2 + off thV s.threads i + 1 + 3 + 5 * j
theorem copiedO_fin (s : GState) {H H2 : Hp} {nx m1 m2 : Nat} {CR TR : List (List C)} {K : D → Hp → Nat → Prop} (hn1 : m1 = nx + 2 + off ceV s.cells s.cells.length) (hn2 : m2 + 1 = m1 + 2 + off thV s.threads s.threads.length)
    (hce : CeX H2 (nx + 3) m1 s.cells.length s.cells CR) (hTb : H2 m2 = some ⟨.c 56, 5, TR⟩) (hTl : TR.length = s.threads.length)
    (hTh : ∀ (i : Nat) (h : i < s.threads.length), i < s.threads.length → TR[i]? = some (thR (.own (m1 + 2 + off thV s.threads i + 1 + 5 * s.threads[i].frames.length) 8 s.threads[i].frames.length) s.threads[i]) ∧
      ∃ FR, FsAt H2 (nD (m1 + 2 + off thV s.threads i + 1) s.threads[i].frames.length) (m1 + 2 + off thV s.threads i + 1 + 5 * s.threads[i].frames.length) (rD (m1 + 2 + off thV s.threads i + 1)) (tD (m1 + 2 + off thV s.threads i + 1)) s.threads[i].frames FR)
    (hlow : ∀ i, i < nx → H2 i = H i) (hhigh : ∀ i, m2 + 1 ≤ i → H2 i = none) (hsol : HSol H2)
    (h : ∀ H' A nx', nx ≤ nx' → (∀ i, i < nx → H' i = H i) → (∀ i, nx' ≤ i → H' i = none) → HSol H' → OwnS H' nx A s → K (.agg (oRow A s)) H' nx') :
    HSol (cpF H2 nx m1 m2 s) ∧ K (.agg [.own m1 4 s.cells.length, .own (m2 + 1) 2 s.shapes.length, .own (m2 + 1 + 1) 1 s.texts.length, .own m2 5 s.threads.length, .own (m2 + 1 + 1 + 1) 3 s.ends.length, .own (m2 + 1 + 1 + 1 + 1) 2 s.said.length, .d (eI s.asked), .d (eI s.steps)]) (cpF H2 nx m1 m2 s) (m2 + 1 + 1 + 1 + 1 + 1) := by
  have x1 : ∀ i, i ≠ nx → i ≠ nx + 1 → i ≤ m2 → cpF H2 nx m1 m2 s i = H2 i := fun i h1 h2 h3 => by
    unfold cpF
    repeat rw [Hp.set_ne _ _ (by omega)]
  have x2 : cpF H2 nx m1 m2 s (m2 + 1) = some ⟨.c 99, 2, s.shapes.map ((fun e => e.map C.d) ∘ eShape)⟩ := by
    unfold cpF
    rw [Hp.set_ne _ _ (by omega), Hp.set_ne _ _ (by omega), Hp.set_ne _ _ (by omega), Hp.set_ne _ _ (by omega), Hp.set_ne _ _ (by omega), Hp.set_ne _ _ (by omega), Hp.set_same]
  have x3 : cpF H2 nx m1 m2 s (m2 + 1 + 1) = some ⟨.c 9, 1, s.texts.map ((fun e => e.map C.d) ∘ eStr)⟩ := by
    unfold cpF
    rw [Hp.set_ne _ _ (by omega), Hp.set_ne _ _ (by omega), Hp.set_ne _ _ (by omega), Hp.set_ne _ _ (by omega), Hp.set_ne _ _ (by omega), Hp.set_same]
  have x4 : cpF H2 nx m1 m2 s (m2 + 1 + 1 + 1) = some ⟨.c 128, 3, s.ends.map ((fun e => e.map C.d) ∘ eEnd)⟩ := by
    unfold cpF
    rw [Hp.set_ne _ _ (by omega), Hp.set_ne _ _ (by omega), Hp.set_ne _ _ (by omega), Hp.set_same]
  have x5 : cpF H2 nx m1 m2 s (m2 + 1 + 1 + 1 + 1) = some (valBlk s.said) := by
    unfold cpF
    rw [Hp.set_ne _ _ (by omega), Hp.set_ne _ _ (by omega), Hp.set_same]
    rfl
  have xs : HSol (cpF H2 nx m1 m2 s) := by
    refine HSol.set (HSol.set (HSol.set (HSol.set (HSol.set (HSol.set (HSol.set (HSol.set hsol ?_) ?_) ?_) ?_) ?_) ?_) ?_) ?_
    case refine_2 =>
      intro e he c hc
      obtain ⟨v, -, rfl⟩ := List.mem_map.1 he
      simp at hc
      rcases hc with rfl | rfl <;> rfl
    all_goals simp
  refine ⟨xs, ?_⟩
  have xh : ∀ i, m2 + 1 + 1 + 1 + 1 + 1 ≤ i → cpF H2 nx m1 m2 s i = none := fun i hi => by
    unfold cpF
    repeat rw [Hp.set_ne _ _ (by omega)]
    exact hhigh i (by omega)
  generalize cpF H2 nx m1 m2 s = M at *
  have hCl : ∀ i (hi : i < s.cells.length), off ceV s.cells i + (5 + 5 * s.cells[i].frames.length) ≤ off ceV s.cells s.cells.length := fun i hi => off_lt (g := ceV) hi hi
  have hTl2 : ∀ i (hi : i < s.threads.length), off thV s.threads i + (4 + 5 * s.threads[i].frames.length) ≤ off thV s.threads s.threads.length := fun i hi => off_lt (g := thV) hi hi
  have hgC : ∀ i (hi : i < s.cells.length), s.cells.getD i dCell = s.cells[i] := fun i hi => by simp [List.getD_eq_getElem?_getD, hi]
  have hgT : ∀ i (hi : i < s.threads.length), s.threads.getD i dThread = s.threads[i] := fun i hi => by simp [List.getD_eq_getElem?_getD, hi]
  have hce2 := hce.low (H' := M) (Nat.le_refl _) (fun q h1 h2 => x1 q (by omega) (by omega) (by omega)) (x1 _ (by omega) (by omega) (by omega))
  refine h M (layD nx m1 m2 s) _ (by omega) (fun i hi => by rw [x1 i (by omega) (by omega) (by omega)]; exact hlow i hi) xh xs ?_
  refine ⟨⟨CR, hce2.blk, hce2.new, fun i hi => by rw [hce2.row i hi hi, oCe, layD, layD, hgC i hi]⟩, ⟨TR, by rw [layD, x1 _ (by omega) (by omega) (by omega)]; exact hTb, ?_, fun i hi => by rw [(hTh i hi hi).1, oTh, layD, hgT i hi]⟩,
    ⟨[], by rw [List.append_nil]; exact x2⟩, ⟨[], by rw [List.append_nil]; exact x3⟩, ⟨[], by rw [List.append_nil]; exact x4⟩, ⟨[], by rw [List.append_nil]; exact x5⟩, fun i hi => ⟨[], by rw [List.append_nil]; exact hce2.vals i hi hi⟩, fun i hi => ?_, fun i hi => ?_, ?_, fun x hx => ?_⟩
  · intro e he c hc
    obtain ⟨i, hi, rfl⟩ := List.getElem_of_mem he
    obtain ⟨k1, -⟩ := hTh i (by omega) (by omega)
    rw [List.getElem?_eq_getElem hi, Option.some.injEq] at k1
    rw [k1] at hc
    simp [thR] at hc
    rcases hc with rfl | rfl | rfl | rfl | rfl <;> rfl
  · rw [layD, hgC i hi]
    exact hce2.frs i hi hi
  · rw [layD, hgT i hi]
    obtain ⟨-, FR, t2⟩ := hTh i hi hi
    have := hTl2 i hi
    exact t2.toB.low (x1 _ (by omega) (by omega) (by omega)) (fun j hj => x1 _ (by simp only [rD]; omega) (by simp only [rD]; omega) (by simp only [rD]; omega)) fun j hj => x1 _ (by simp only [tD]; omega) (by simp only [tD]; omega) (by simp only [tD]; omega)
  · refine inj_of (fun i => nx + 3 + off ceV s.cells i) (fun i => 3 + 5 * (s.cells.getD i dCell).frames.length) (fun i => m1 + 2 + off thV s.threads i) (fun i => 2 + 5 * (s.threads.getD i dThread).frames.length) ?_ ?_ ?_ ?_ ?_ ?_ ?_ ?_ ?_ ?_
    · intro x y hx hy e
      cases x <;> cases y <;> first | rfl | (cases hx; done) | (cases hy; done) | (simp only [layD] at e; omega)
    · intro i x hi h hx
      cases x <;> simp only [ofC] at h <;> subst h <;> simp only [layD, hgC _ hi]
      · omega
      · omega
      · have := live_c hi hx; omega
      · have := live_c hi hx; omega
    · intro i x hi h hx
      cases x <;> simp only [ofT] at h <;> subst h <;> simp only [layD, hgT _ hi]
      · omega
      · have := live_t hi hx; omega
      · have := live_t hi hx; omega
    · intro i x y hi h1 h2 hx hy e
      cases x <;> simp only [ofC] at h1 <;> subst h1 <;> cases y <;> simp only [ofC] at h2 <;> subst h2 <;> simp only [layD, hgC _ hi] at e <;> first | rfl | (exfalso; omega) | (congr 1; omega) | (exfalso; have := live_c hi hx; omega) | (exfalso; have := live_c hi hy; omega)
    · intro i x y hi h1 h2 hx hy e
      cases x <;> simp only [ofT] at h1 <;> subst h1 <;> cases y <;> simp only [ofT] at h2 <;> subst h2 <;> simp only [layD, hgT _ hi] at e <;> first | rfl | (exfalso; omega) | (congr 1; omega) | (exfalso; have := live_t hi hx; omega) | (exfalso; have := live_t hi hy; omega)
    · intro i k hi hk hne
      have := off_apart ceV s.cells hi hk hne
      simp only [hgC _ hi, hgC _ hk]
      simp only [ceV] at this
      omega
    · intro i k hi hk hne
      have := off_apart thV s.threads hi hk hne
      simp only [hgT _ hi, hgT _ hk]
      simp only [thV] at this
      omega
    · intro i k hi hk
      have := hCl i hi
      simp only [hgC _ hi]
      omega
    · intro x i hx hi
      have := hCl i hi
      simp only [hgC _ hi]
      cases x <;> first | (cases hx; done) | (simp only [layD]; omega)
    · intro x i hx hi
      have := hTl2 i hi
      simp only [hgT _ hi]
      cases x <;> first | (cases hx; done) | (simp only [layD]; omega)
  · cases x <;> simp only [layD] <;> omega
theorem copiedO_ic (s : GState) (hz : Sized s) {H : Hp} {nx : Nat} (hS : HSol H) {K : D → Hp → Nat → Prop}
    (h : ∀ H' A nx', nx ≤ nx' → (∀ i, i < nx → H' i = H i) → (∀ i, nx' ≤ i → H' i = none) → HSol H' → OwnS H' nx A s → K (.agg (oRow A s)) H' nx') :
    ICall Tryz.prog 89 [aD (eState s)] H nx K := by
  obtain ⟨z1, z2, z3, z4, z5, z6, z7, z8⟩ := hz
  refine ICall.fresh (by kernel_rfl) fun hfr => ?_
  refine fni_ok [0,1,2,3,4,6,7,9,11,12,13,14,33,34,35,36] [(6, [0,0,2,7,0,0,32,127,111,511,1023,2047], (.seg 1 (.seg 2 (.seg 4 (.seg 5 (.fork 0 [1, 2, 5] (.fork 3 [5] (.eff 6 [] (.seg 8 (.eff 7 [8] (.eff 9 [] (.seg 10 (.eff 11 [] .last)))))) (.eff 6 [1, 2] (.eff 3 [] (.seg 8 (.eff 7 [8] (.eff 9 [] (.seg 10 (.eff 11 [] .last)))))))) (.eff 6 [1, 2] (.eff 0 [1, 2] (.eff 3 [] (.seg 8 (.eff 7 [8] (.eff 9 [] (.seg 10 (.eff 11 [] .last)))))))))))))), (17, [0,0,2,7,0,0,32,127,111,511,1023,2047], (.seg 1 (.seg 2 (.seg 5 (.fork 0 [1, 2, 5] (.fork 3 [5] (.fork 4 [5] (.eff 6 [] (.seg 8 (.eff 7 [8] (.eff 9 [] (.seg 10 (.eff 11 [] .last)))))) (.eff 6 [] (.seg 8 (.eff 4 [8] (.eff 7 [8] (.eff 9 [] (.seg 10 (.eff 11 [] .last)))))))) (.fork 4 [1, 2, 5] (.fork 3 [5] (.eff 6 [] (.seg 8 (.eff 7 [8] (.eff 9 [] (.seg 10 (.eff 11 [] .last)))))) (.eff 6 [1, 2] (.eff 3 [] (.seg 8 (.eff 7 [8] (.eff 9 [] (.seg 10 (.eff 11 [] .last)))))))) (.eff 6 [1, 2] (.fork 3 [] (.seg 8 (.eff 4 [8] (.eff 7 [8] (.eff 9 [] (.seg 10 (.eff 11 [] .last)))))) (.eff 4 [1, 2] (.eff 3 [] (.seg 8 (.eff 7 [8] (.eff 9 [] (.seg 10 (.eff 11 [] .last))))))))))) (.fork 4 [1, 2, 5] (.fork 0 [1, 2, 5] (.fork 3 [5] (.eff 6 [] (.seg 8 (.eff 7 [8] (.eff 9 [] (.seg 10 (.eff 11 [] .last)))))) (.eff 6 [1, 2] (.eff 3 [] (.seg 8 (.eff 7 [8] (.eff 9 [] (.seg 10 (.eff 11 [] .last)))))))) (.eff 6 [1, 2] (.eff 0 [1, 2] (.eff 3 [] (.seg 8 (.eff 7 [8] (.eff 9 [] (.seg 10 (.eff 11 [] .last))))))))) (.eff 6 [1, 2] (.fork 0 [1, 2] (.fork 3 [] (.seg 8 (.eff 4 [8] (.eff 7 [8] (.eff 9 [] (.seg 10 (.eff 11 [] .last)))))) (.eff 4 [1, 2] (.eff 3 [] (.seg 8 (.eff 7 [8] (.eff 9 [] (.seg 10 (.eff 11 [] .last)))))))) (.eff 4 [1, 2] (.eff 0 [1, 2] (.eff 3 [] (.seg 8 (.eff 7 [8] (.eff 9 [] (.seg 10 (.eff 11 [] .last)))))))))))))))), (18, [0,0,2,7,0,0,32,127,111,511,1023,2047], (.seg 1 (.seg 2 (.seg 5 (.fork 0 [1, 2, 5] (.fork 3 [5] (.fork 4 [5] (.eff 6 [] (.seg 8 (.eff 7 [8] (.eff 9 [] (.seg 10 (.eff 11 [] .last)))))) (.eff 6 [] (.seg 8 (.eff 4 [8] (.eff 7 [8] (.eff 9 [] (.seg 10 (.eff 11 [] .last)))))))) (.fork 4 [1, 2, 5] (.fork 3 [5] (.eff 6 [] (.seg 8 (.eff 7 [8] (.eff 9 [] (.seg 10 (.eff 11 [] .last)))))) (.eff 6 [1, 2] (.eff 3 [] (.seg 8 (.eff 7 [8] (.eff 9 [] (.seg 10 (.eff 11 [] .last)))))))) (.eff 6 [1, 2] (.fork 3 [] (.seg 8 (.eff 4 [8] (.eff 7 [8] (.eff 9 [] (.seg 10 (.eff 11 [] .last)))))) (.eff 4 [1, 2] (.eff 3 [] (.seg 8 (.eff 7 [8] (.eff 9 [] (.seg 10 (.eff 11 [] .last))))))))))) (.fork 4 [1, 2, 5] (.fork 0 [1, 2, 5] (.fork 3 [5] (.eff 6 [] (.seg 8 (.eff 7 [8] (.eff 9 [] (.seg 10 (.eff 11 [] .last)))))) (.eff 6 [1, 2] (.eff 3 [] (.seg 8 (.eff 7 [8] (.eff 9 [] (.seg 10 (.eff 11 [] .last)))))))) (.eff 6 [1, 2] (.eff 0 [1, 2] (.eff 3 [] (.seg 8 (.eff 7 [8] (.eff 9 [] (.seg 10 (.eff 11 [] .last))))))))) (.eff 6 [1, 2] (.fork 0 [1, 2] (.fork 3 [] (.seg 8 (.eff 4 [8] (.eff 7 [8] (.eff 9 [] (.seg 10 (.eff 11 [] .last)))))) (.eff 4 [1, 2] (.eff 3 [] (.seg 8 (.eff 7 [8] (.eff 9 [] (.seg 10 (.eff 11 [] .last)))))))) (.eff 4 [1, 2] (.eff 0 [1, 2] (.eff 3 [] (.seg 8 (.eff 7 [8] (.eff 9 [] (.seg 10 (.eff 11 [] .last))))))))))))))))] Tryz.func89 rfl (by kernel_rfl) rfl rfl rfl rfl (by kernel_rfl) ?_
  simp [Nat.add_assoc]
  intro _
  have hI0 : CeD2 H nx s ⟨0, ((H.set nx (some ⟨.c 32, 8, [(eState s).map .d]⟩)).set (nx + 1) (some ⟨.c 32, 8, [nilS]⟩)).set (nx + 2) (some ⟨.c 48, 4, []⟩), nx + 3⟩ := by
    refine ⟨by simp, by simp, ?_, ?_, ⟨[], ⟨Hp.set_same _ _ _, rfl, (fun e he => by cases he), fun i hi h => absurd h (Nat.not_lt_zero _), fun i hi h => absurd h (Nat.not_lt_zero _), fun i hi h => absurd h (Nat.not_lt_zero _)⟩⟩, fun i hi => ?_, fun i hi => ?_, HSol.set (HSol.set (HSol.set hS (by simp)) (by simp [nilS])) (by simp)⟩
    · simp [Hp.set]
    · simp [Hp.set]
    · show Hp.set _ _ _ _ = _
      rw [Hp.set_ne _ _ (by omega), Hp.set_ne _ _ (by omega), Hp.set_ne _ _ (by omega)]
    · simp only at hi
      show Hp.set _ _ _ _ = _
      rw [Hp.set_ne _ _ (by omega), Hp.set_ne _ _ (by omega), Hp.set_ne _ _ (by omega)]; exact hfr i (by omega)
  refine loopH_ok (ks := [0,1,2,3,4,6,7,9,11,12,13,14,33,34,35,36]) (pl := [(6, [0,0,2,7,0,0,32,127,111,511,1023,2047], (.seg 1 (.seg 2 (.seg 4 (.seg 5 (.fork 0 [1, 2, 5] (.fork 3 [5] (.eff 6 [] (.seg 8 (.eff 7 [8] (.eff 9 [] (.seg 10 (.eff 11 [] .last)))))) (.eff 6 [1, 2] (.eff 3 [] (.seg 8 (.eff 7 [8] (.eff 9 [] (.seg 10 (.eff 11 [] .last)))))))) (.eff 6 [1, 2] (.eff 0 [1, 2] (.eff 3 [] (.seg 8 (.eff 7 [8] (.eff 9 [] (.seg 10 (.eff 11 [] .last)))))))))))))), (17, [0,0,2,7,0,0,32,127,111,511,1023,2047], (.seg 1 (.seg 2 (.seg 5 (.fork 0 [1, 2, 5] (.fork 3 [5] (.fork 4 [5] (.eff 6 [] (.seg 8 (.eff 7 [8] (.eff 9 [] (.seg 10 (.eff 11 [] .last)))))) (.eff 6 [] (.seg 8 (.eff 4 [8] (.eff 7 [8] (.eff 9 [] (.seg 10 (.eff 11 [] .last)))))))) (.fork 4 [1, 2, 5] (.fork 3 [5] (.eff 6 [] (.seg 8 (.eff 7 [8] (.eff 9 [] (.seg 10 (.eff 11 [] .last)))))) (.eff 6 [1, 2] (.eff 3 [] (.seg 8 (.eff 7 [8] (.eff 9 [] (.seg 10 (.eff 11 [] .last)))))))) (.eff 6 [1, 2] (.fork 3 [] (.seg 8 (.eff 4 [8] (.eff 7 [8] (.eff 9 [] (.seg 10 (.eff 11 [] .last)))))) (.eff 4 [1, 2] (.eff 3 [] (.seg 8 (.eff 7 [8] (.eff 9 [] (.seg 10 (.eff 11 [] .last))))))))))) (.fork 4 [1, 2, 5] (.fork 0 [1, 2, 5] (.fork 3 [5] (.eff 6 [] (.seg 8 (.eff 7 [8] (.eff 9 [] (.seg 10 (.eff 11 [] .last)))))) (.eff 6 [1, 2] (.eff 3 [] (.seg 8 (.eff 7 [8] (.eff 9 [] (.seg 10 (.eff 11 [] .last)))))))) (.eff 6 [1, 2] (.eff 0 [1, 2] (.eff 3 [] (.seg 8 (.eff 7 [8] (.eff 9 [] (.seg 10 (.eff 11 [] .last))))))))) (.eff 6 [1, 2] (.fork 0 [1, 2] (.fork 3 [] (.seg 8 (.eff 4 [8] (.eff 7 [8] (.eff 9 [] (.seg 10 (.eff 11 [] .last)))))) (.eff 4 [1, 2] (.eff 3 [] (.seg 8 (.eff 7 [8] (.eff 9 [] (.seg 10 (.eff 11 [] .last)))))))) (.eff 4 [1, 2] (.eff 0 [1, 2] (.eff 3 [] (.seg 8 (.eff 7 [8] (.eff 9 [] (.seg 10 (.eff 11 [] .last)))))))))))))))), (18, [0,0,2,7,0,0,32,127,111,511,1023,2047], (.seg 1 (.seg 2 (.seg 5 (.fork 0 [1, 2, 5] (.fork 3 [5] (.fork 4 [5] (.eff 6 [] (.seg 8 (.eff 7 [8] (.eff 9 [] (.seg 10 (.eff 11 [] .last)))))) (.eff 6 [] (.seg 8 (.eff 4 [8] (.eff 7 [8] (.eff 9 [] (.seg 10 (.eff 11 [] .last)))))))) (.fork 4 [1, 2, 5] (.fork 3 [5] (.eff 6 [] (.seg 8 (.eff 7 [8] (.eff 9 [] (.seg 10 (.eff 11 [] .last)))))) (.eff 6 [1, 2] (.eff 3 [] (.seg 8 (.eff 7 [8] (.eff 9 [] (.seg 10 (.eff 11 [] .last)))))))) (.eff 6 [1, 2] (.fork 3 [] (.seg 8 (.eff 4 [8] (.eff 7 [8] (.eff 9 [] (.seg 10 (.eff 11 [] .last)))))) (.eff 4 [1, 2] (.eff 3 [] (.seg 8 (.eff 7 [8] (.eff 9 [] (.seg 10 (.eff 11 [] .last))))))))))) (.fork 4 [1, 2, 5] (.fork 0 [1, 2, 5] (.fork 3 [5] (.eff 6 [] (.seg 8 (.eff 7 [8] (.eff 9 [] (.seg 10 (.eff 11 [] .last)))))) (.eff 6 [1, 2] (.eff 3 [] (.seg 8 (.eff 7 [8] (.eff 9 [] (.seg 10 (.eff 11 [] .last)))))))) (.eff 6 [1, 2] (.eff 0 [1, 2] (.eff 3 [] (.seg 8 (.eff 7 [8] (.eff 9 [] (.seg 10 (.eff 11 [] .last))))))))) (.eff 6 [1, 2] (.fork 0 [1, 2] (.fork 3 [] (.seg 8 (.eff 4 [8] (.eff 7 [8] (.eff 9 [] (.seg 10 (.eff 11 [] .last)))))) (.eff 4 [1, 2] (.eff 3 [] (.seg 8 (.eff 7 [8] (.eff 9 [] (.seg 10 (.eff 11 [] .last)))))))) (.eff 4 [1, 2] (.eff 0 [1, 2] (.eff 3 [] (.seg 8 (.eff 7 [8] (.eff 9 [] (.seg 10 (.eff 11 [] .last))))))))))))))))]) (n0 := 74) (α := {x : HN // CeD2 H nx s x}) (fun x => [(4, .one (.own (x.1.nx - 1) 4 x.1.k)), (13, dI x.1.k)]) (fun _ x => x.1.H) (fun x => x.1.nx) (fun x => s.cells.length - x.1.k) ⟨_, hI0⟩ rfl (by kernel_rfl) ((Wk.emp (t := 4) 48 4 rfl).trans (Wk.sub (by simp))) ?_
  clear hI0
  rintro ⟨⟨k, H1, n1⟩, hI⟩
  obtain ⟨hk, hn1, hbox, hres, ⟨CR, hce⟩, hlow, hhigh, hsol⟩ := hI
  simp only at hk hn1 hbox hres hce hlow hhigh hsol
  obtain ⟨m1, rfl⟩ : ∃ m1, n1 = m1 + 1 := ⟨n1 - 1, by omega⟩
  rw [Nat.add_sub_cancel] at hce
  have hCl := hce.len
  by_cases h1 : k < s.cells.length
  · obtain ⟨g1, g2, g3⟩ := z7 _ (List.getElem_mem h1)
    have hb := hce.blk
    simp [h1]
    refine ⟨.inl g1, ?_⟩
    refine framesD_ic true s.cells[k].frames g2 g3 (fun _ _ h => by cases h) (fun H' FR low' high' sol' new' at' => ?_)
    simp
    refine ⟨fun i x hx => ⟨?_, new' i ?_ x hx⟩, ?_⟩
    · rcases Nat.lt_or_ge i (m1 + 1 + 1 + 1) with h | h
      · rw [low' i h] at hx; cases hx
      · exact h
    · rcases Nat.lt_or_ge i (m1 + 1 + 1 + 1) with h | h
      · rw [low' i h] at hx; cases hx
      · exact h
    rw [show (⟨.c 50, 2, s.cells[k].vals.map ((fun e => e.map C.d) ∘ eVal)⟩ : Blk) = valBlk s.cells[k].vals from rfl]
    have d0 : ∀ i, i ≤ m1 → Hp.mer ((H1.set (m1 + 1) (some ⟨.c 48, 4, [[C.d (eI s.cells[k].kind), C.d (eI s.cells[k].num), C.d (Dt.sl true (List.map eVal s.cells[k].vals)), C.d (Dt.sl true (List.map eFrame s.cells[k].frames))]]⟩)).set (m1 + 1 + 1) (some (valBlk s.cells[k].vals))) (m1 + 1 + 1 + 1) H' i = H1 i := fun i hi => by
      rw [Hp.mer_lt (by omega), Hp.set_ne _ _ (by omega), Hp.set_ne _ _ (by omega)]
    have d1 : Hp.mer ((H1.set (m1 + 1) (some ⟨.c 48, 4, [[C.d (eI s.cells[k].kind), C.d (eI s.cells[k].num), C.d (Dt.sl true (List.map eVal s.cells[k].vals)), C.d (Dt.sl true (List.map eFrame s.cells[k].frames))]]⟩)).set (m1 + 1 + 1) (some (valBlk s.cells[k].vals))) (m1 + 1 + 1 + 1) H' (m1 + 1) = some ⟨.c 48, 4, [[C.d (eI s.cells[k].kind), C.d (eI s.cells[k].num), C.d (Dt.sl true (List.map eVal s.cells[k].vals)), C.d (Dt.sl true (List.map eFrame s.cells[k].frames))]]⟩ := by
      rw [Hp.mer_lt (by omega), Hp.set_ne _ _ (by omega), Hp.set_same]
    have d2 : Hp.mer ((H1.set (m1 + 1) (some ⟨.c 48, 4, [[C.d (eI s.cells[k].kind), C.d (eI s.cells[k].num), C.d (Dt.sl true (List.map eVal s.cells[k].vals)), C.d (Dt.sl true (List.map eFrame s.cells[k].frames))]]⟩)).set (m1 + 1 + 1) (some (valBlk s.cells[k].vals))) (m1 + 1 + 1 + 1) H' (m1 + 1 + 1) = some (valBlk s.cells[k].vals) := by
      rw [Hp.mer_lt (by omega), Hp.set_same]
    have d3 : ∀ i, m1 + 1 + 1 + 1 ≤ i → Hp.mer ((H1.set (m1 + 1) (some ⟨.c 48, 4, [[C.d (eI s.cells[k].kind), C.d (eI s.cells[k].num), C.d (Dt.sl true (List.map eVal s.cells[k].vals)), C.d (Dt.sl true (List.map eFrame s.cells[k].frames))]]⟩)).set (m1 + 1 + 1) (some (valBlk s.cells[k].vals))) (m1 + 1 + 1 + 1) H' i = H' i := fun i hi => Hp.mer_ge hi
    have d4 : HSol (Hp.mer ((H1.set (m1 + 1) (some ⟨.c 48, 4, [[C.d (eI s.cells[k].kind), C.d (eI s.cells[k].num), C.d (Dt.sl true (List.map eVal s.cells[k].vals)), C.d (Dt.sl true (List.map eFrame s.cells[k].frames))]]⟩)).set (m1 + 1 + 1) (some (valBlk s.cells[k].vals))) (m1 + 1 + 1 + 1) H') := HSol.mer ((hsol.set (by simp)).set (valBlk_sol _)) sol'
    generalize Hp.mer ((H1.set (m1 + 1) (some ⟨.c 48, 4, [[C.d (eI s.cells[k].kind), C.d (eI s.cells[k].num), C.d (Dt.sl true (List.map eVal s.cells[k].vals)), C.d (Dt.sl true (List.map eFrame s.cells[k].frames))]]⟩)).set (m1 + 1 + 1) (some (valBlk s.cells[k].vals))) (m1 + 1 + 1 + 1) H' = M at *
    have d5 : M m1 = some ⟨.c 48, 4, CR⟩ := by rw [d0 _ (by omega)]; exact hb
    obtain ⟨n2, hn2⟩ : ∃ n2, n2 = m1 + 1 + 1 + 1 + 1 + 5 * s.cells[k].frames.length := ⟨_, rfl⟩
    rw [← hn2]
    have e1 : ¬ m1 + 1 = m1 := by omega
    have e2 : ¬ m1 = n2 := by omega
    have e3 : ¬ m1 + 1 = n2 := by omega
    simp [d1, d5, e1, e2, e3, hCl]
    have htk : CR.take k = CR := List.take_of_length_le (by omega)
    rw [htk]
    have x1 : ∀ i, i ≠ m1 → i ≠ m1 + 1 → i ≠ n2 + 1 → ((M.set (m1 + 1) none).set m1 none).set (n2 + 1) (some ⟨.c 48, 4, CR ++ [ceR (.own (m1 + 1 + 1) 2 s.cells[k].vals.length) (.own (m1 + 1 + 1 + 1 + 5 * s.cells[k].frames.length) 8 s.cells[k].frames.length) s.cells[k]]⟩) i = M i := fun i h1 h2 h3 => by
      rw [Hp.set_ne _ _ h3, Hp.set_ne _ _ h1, Hp.set_ne _ _ h2]
    have ho : off ceV s.cells (k + 1) = off ceV s.cells k + (5 + 5 * s.cells[k].frames.length) := off_succ h1
    have b1 : nx + 3 + off ceV s.cells k + 1 = m1 + 1 + 1 := by omega
    have b2 : nx + 3 + off ceV s.cells k + 2 = m1 + 1 + 1 + 1 := by omega
    have hce2 : CeX (((M.set (m1 + 1) none).set m1 none).set (n2 + 1) (some ⟨.c 48, 4, CR ++ [ceR (.own (m1 + 1 + 1) 2 s.cells[k].vals.length) (.own (m1 + 1 + 1 + 1 + 5 * s.cells[k].frames.length) 8 s.cells[k].frames.length) s.cells[k]]⟩)) (nx + 3) (n2 + 1) (k + 1) s.cells (CR ++ [ceR (.own (m1 + 1 + 1) 2 s.cells[k].vals.length) (.own (m1 + 1 + 1 + 1 + 5 * s.cells[k].frames.length) 8 s.cells[k].frames.length) s.cells[k]]) := by
      have := CeX.app (H' := ((M.set (m1 + 1) none).set m1 none).set (n2 + 1) (some ⟨.c 48, 4, CR ++ [ceR (.own (m1 + 1 + 1) 2 s.cells[k].vals.length) (.own (m1 + 1 + 1 + 1 + 5 * s.cells[k].frames.length) 8 s.cells[k].frames.length) s.cells[k]]⟩)) (nC' := n2 + 1) hce h1 (fun q h1 h2 => by rw [x1 _ (by omega) (by omega) (by omega), d0 q (by omega)]) (by rw [b1, b2]; exact Hp.set_same _ _ _) (by rw [b1, x1 _ (by omega) (by omega) (by omega)]; exact d2)
        (by rw [b2]; exact at'.toB.low (by rw [x1 _ (by omega) (by omega) (by omega)]; exact d3 _ (by omega)) (fun j hj => by simp only [rD]; rw [x1 _ (by omega) (by omega) (by omega)]; exact d3 _ (by omega)) fun j hj => by simp only [tD]; rw [x1 _ (by omega) (by omega) (by omega)]; exact d3 _ (by omega))
      rw [b1, b2] at this
      exact this
    refine ⟨fun m b e hm => ?_, .inl (by omega), ⟨k + 1, ((M.set (m1 + 1) none).set m1 none).set (n2 + 1) (some ⟨.c 48, 4, CR ++ [ceR (.own (m1 + 1 + 1) 2 s.cells[k].vals.length) (.own (m1 + 1 + 1 + 1 + 5 * s.cells[k].frames.length) 8 s.cells[k].frames.length) s.cells[k]]⟩), n2 + 2⟩, by simp; omega, ⟨h1, by simp; omega, ?_, ?_, ⟨_, by simp only [show n2 + 2 - 1 = n2 + 1 by omega]; exact hce2⟩, fun i hi => ?_, fun i hi => ?_, ?_⟩, (Wk.sub (by simp [wrap_add (show k < 9223372036854775807 by omega)])).trans (Wk.heap ?_)⟩
    · subst e
      rw [if_neg e2, if_neg (by omega), d5] at hm
      cases hm
      exact ⟨rfl, rfl⟩
    · simp only; rw [x1 _ (by omega) (by omega) (by omega), d0 _ (by omega)]; exact hbox
    · simp only; rw [x1 _ (by omega) (by omega) (by omega), d0 _ (by omega)]; exact hres
    · simp only; rw [x1 _ (by omega) (by omega) (by omega), d0 _ (by omega)]; exact hlow i hi
    · simp only at hi ⊢; rw [x1 _ (by omega) (by omega) (by omega), d3 _ (by omega)]; exact high' i (by omega)
    · exact HSol.set (HSol.none (HSol.none d4)) hce2.new.sol
    · intro i y hy
      simp only at hy
      by_cases i1 : i = n2 + 1
      · subst i1; rw [Hp.set_same] at hy ⊢; rw [ceR] at hy; exact hy
      rw [Hp.set_ne _ _ i1] at hy ⊢
      by_cases i2 : i = m1
      · subst i2; rw [Hp.set_same] at hy; cases hy
      rw [Hp.set_ne _ _ i2] at hy ⊢
      by_cases i3 : i = m1 + 1
      · subst i3; rw [Hp.set_same] at hy; cases hy
      rw [Hp.set_ne _ _ i3] at hy
      have i4 : i ≠ n2 := fun e => by subst e; rw [d3 _ (by omega), high' _ (by omega)] at hy; cases hy
      rw [Hp.set_ne _ _ i4, Hp.set_ne _ _ i3]; exact hy
  · obtain rfl : k = s.cells.length := by omega
    simp [hbox]
    intro _
    have hJ0 : ThD2 H nx (m1 + 2) s ⟨0, H1.set (m1 + 1) (some ⟨.c 56, 5, []⟩), m1 + 2⟩ := by
      have ne : ∀ i, i ≠ m1 + 1 → H1.set (m1 + 1) (some ⟨.c 56, 5, []⟩) i = H1 i := fun i hi => Hp.set_ne _ _ hi
      refine ⟨Nat.zero_le _, by omega, by simp, ?_, ?_, ⟨CR, hce.low (Nat.le_refl _) (fun q h1 h2 => ne _ (by omega)) (ne _ (by omega))⟩, ⟨[], Hp.set_same _ _ _, rfl, fun i h1 h2 => absurd h2 (Nat.not_lt_zero _)⟩, fun i hi => ?_, fun i hi => ?_, hsol.set (by simp)⟩
      · simp only; rw [ne _ (by omega)]; exact hbox
      · simp only; rw [ne _ (by omega)]; exact hres
      · simp only; rw [ne _ (by omega)]; exact hlow i hi
      · simp only at hi ⊢; rw [ne _ (by omega)]; exact hhigh i (by omega)
    have hm4 : m1 = nx + 2 + off ceV s.cells s.cells.length := by omega
    refine loopH_ok (ks := [0,1,2,3,4,6,7,9,11,12,13,14,33,34,35,36]) (pl := [(6, [0,0,2,7,0,0,32,127,111,511,1023,2047], (.seg 1 (.seg 2 (.seg 4 (.seg 5 (.fork 0 [1, 2, 5] (.fork 3 [5] (.eff 6 [] (.seg 8 (.eff 7 [8] (.eff 9 [] (.seg 10 (.eff 11 [] .last)))))) (.eff 6 [1, 2] (.eff 3 [] (.seg 8 (.eff 7 [8] (.eff 9 [] (.seg 10 (.eff 11 [] .last)))))))) (.eff 6 [1, 2] (.eff 0 [1, 2] (.eff 3 [] (.seg 8 (.eff 7 [8] (.eff 9 [] (.seg 10 (.eff 11 [] .last)))))))))))))), (17, [0,0,2,7,0,0,32,127,111,511,1023,2047], (.seg 1 (.seg 2 (.seg 5 (.fork 0 [1, 2, 5] (.fork 3 [5] (.fork 4 [5] (.eff 6 [] (.seg 8 (.eff 7 [8] (.eff 9 [] (.seg 10 (.eff 11 [] .last)))))) (.eff 6 [] (.seg 8 (.eff 4 [8] (.eff 7 [8] (.eff 9 [] (.seg 10 (.eff 11 [] .last)))))))) (.fork 4 [1, 2, 5] (.fork 3 [5] (.eff 6 [] (.seg 8 (.eff 7 [8] (.eff 9 [] (.seg 10 (.eff 11 [] .last)))))) (.eff 6 [1, 2] (.eff 3 [] (.seg 8 (.eff 7 [8] (.eff 9 [] (.seg 10 (.eff 11 [] .last)))))))) (.eff 6 [1, 2] (.fork 3 [] (.seg 8 (.eff 4 [8] (.eff 7 [8] (.eff 9 [] (.seg 10 (.eff 11 [] .last)))))) (.eff 4 [1, 2] (.eff 3 [] (.seg 8 (.eff 7 [8] (.eff 9 [] (.seg 10 (.eff 11 [] .last))))))))))) (.fork 4 [1, 2, 5] (.fork 0 [1, 2, 5] (.fork 3 [5] (.eff 6 [] (.seg 8 (.eff 7 [8] (.eff 9 [] (.seg 10 (.eff 11 [] .last)))))) (.eff 6 [1, 2] (.eff 3 [] (.seg 8 (.eff 7 [8] (.eff 9 [] (.seg 10 (.eff 11 [] .last)))))))) (.eff 6 [1, 2] (.eff 0 [1, 2] (.eff 3 [] (.seg 8 (.eff 7 [8] (.eff 9 [] (.seg 10 (.eff 11 [] .last))))))))) (.eff 6 [1, 2] (.fork 0 [1, 2] (.fork 3 [] (.seg 8 (.eff 4 [8] (.eff 7 [8] (.eff 9 [] (.seg 10 (.eff 11 [] .last)))))) (.eff 4 [1, 2] (.eff 3 [] (.seg 8 (.eff 7 [8] (.eff 9 [] (.seg 10 (.eff 11 [] .last)))))))) (.eff 4 [1, 2] (.eff 0 [1, 2] (.eff 3 [] (.seg 8 (.eff 7 [8] (.eff 9 [] (.seg 10 (.eff 11 [] .last)))))))))))))))), (18, [0,0,2,7,0,0,32,127,111,511,1023,2047], (.seg 1 (.seg 2 (.seg 5 (.fork 0 [1, 2, 5] (.fork 3 [5] (.fork 4 [5] (.eff 6 [] (.seg 8 (.eff 7 [8] (.eff 9 [] (.seg 10 (.eff 11 [] .last)))))) (.eff 6 [] (.seg 8 (.eff 4 [8] (.eff 7 [8] (.eff 9 [] (.seg 10 (.eff 11 [] .last)))))))) (.fork 4 [1, 2, 5] (.fork 3 [5] (.eff 6 [] (.seg 8 (.eff 7 [8] (.eff 9 [] (.seg 10 (.eff 11 [] .last)))))) (.eff 6 [1, 2] (.eff 3 [] (.seg 8 (.eff 7 [8] (.eff 9 [] (.seg 10 (.eff 11 [] .last)))))))) (.eff 6 [1, 2] (.fork 3 [] (.seg 8 (.eff 4 [8] (.eff 7 [8] (.eff 9 [] (.seg 10 (.eff 11 [] .last)))))) (.eff 4 [1, 2] (.eff 3 [] (.seg 8 (.eff 7 [8] (.eff 9 [] (.seg 10 (.eff 11 [] .last))))))))))) (.fork 4 [1, 2, 5] (.fork 0 [1, 2, 5] (.fork 3 [5] (.eff 6 [] (.seg 8 (.eff 7 [8] (.eff 9 [] (.seg 10 (.eff 11 [] .last)))))) (.eff 6 [1, 2] (.eff 3 [] (.seg 8 (.eff 7 [8] (.eff 9 [] (.seg 10 (.eff 11 [] .last)))))))) (.eff 6 [1, 2] (.eff 0 [1, 2] (.eff 3 [] (.seg 8 (.eff 7 [8] (.eff 9 [] (.seg 10 (.eff 11 [] .last))))))))) (.eff 6 [1, 2] (.fork 0 [1, 2] (.fork 3 [] (.seg 8 (.eff 4 [8] (.eff 7 [8] (.eff 9 [] (.seg 10 (.eff 11 [] .last)))))) (.eff 4 [1, 2] (.eff 3 [] (.seg 8 (.eff 7 [8] (.eff 9 [] (.seg 10 (.eff 11 [] .last)))))))) (.eff 4 [1, 2] (.eff 0 [1, 2] (.eff 3 [] (.seg 8 (.eff 7 [8] (.eff 9 [] (.seg 10 (.eff 11 [] .last))))))))))))))))]) (n0 := 74) (α := {x : HN // ThD2 H nx (m1 + 2) s x}) (fun x => [(7, .one (.own (x.1.nx - 1) 5 x.1.k)), (35, dI x.1.k)]) (fun _ x => x.1.H) (fun x => x.1.nx) (fun x => s.threads.length - x.1.k) ⟨_, hJ0⟩ rfl (by kernel_rfl) ((Wk.emp (t := 7) 56 5 rfl).trans (Wk.sub (by simp))) ?_
    clear hJ0 hbox hres hce hlow hhigh hsol hCl hn1 h1
    rintro ⟨⟨k, H2, n2⟩, hJ⟩
    obtain ⟨hk2, he, hn2, hbox, hres, ⟨CR, hce⟩, ⟨TR, hTb, hTl, hTh⟩, hlow, hhigh, hsol⟩ := hJ
    simp only at hk2 hn2 hbox hres hce hTb hTl hTh hlow hhigh hsol
    obtain ⟨m2, rfl⟩ : ∃ m2, n2 = m2 + 1 := ⟨n2 - 1, by omega⟩
    rw [Nat.add_sub_cancel] at hTb
    have hm2 : m1 + 1 ≤ m2 := by omega
    by_cases h1 : k < s.threads.length
    · obtain ⟨g2, g3⟩ := z8 _ (List.getElem_mem h1)
      simp [h1]
      refine framesD_ic true s.threads[k].frames g2 g3 (hsol.set (by simp)) (fun H' FR low' high' sol' new' at' => ?_)
      have d0 : ∀ i, i ≤ m2 → H' i = H2 i := fun i hi => by rw [low' _ (by omega), Hp.set_ne _ _ (by omega)]
      have d1 : H' (m2 + 1) = some ⟨.c 56, 5, [[C.d (Dt.sl true (List.map eFrame s.threads[k].frames)), C.d (eI s.threads[k].state), C.d (eI s.threads[k].on), C.d (eI s.threads[k].val.kind), C.d (eI s.threads[k].val.n)]]⟩ := by rw [low' _ (by omega), Hp.set_same]
      have d5 : H' m2 = some ⟨.c 56, 5, TR⟩ := by rw [d0 _ (by omega)]; exact hTb
      obtain ⟨n3, hn3⟩ : ∃ n3, n3 = m2 + 1 + 1 + 1 + 5 * s.threads[k].frames.length := ⟨_, rfl⟩
      rw [← hn3]
      have e1 : ¬ m2 + 1 = m2 := by omega
      have e2 : ¬ m2 = n3 := by omega
      have e3 : ¬ m2 + 1 = n3 := by omega
      simp [d1, d5, e1, e2, e3, hTl]
      have htk : TR.take k = TR := List.take_of_length_le (by omega)
      rw [htk]
      have x1 : ∀ i, i ≠ m2 → i ≠ m2 + 1 → i ≠ n3 + 1 → ((H'.set (m2 + 1) none).set m2 none).set (n3 + 1) (some ⟨.c 56, 5, TR ++ [thR (.own (m2 + 1 + 1 + 5 * s.threads[k].frames.length) 8 s.threads[k].frames.length) s.threads[k]]⟩) i = H' i := fun i h1 h2 h3 => by
        rw [Hp.set_ne _ _ h3, Hp.set_ne _ _ h1, Hp.set_ne _ _ h2]
      have hos : off thV s.threads (k + 1) = off thV s.threads k + (4 + 5 * s.threads[k].frames.length) := off_succ h1
      have hB : m2 + 1 + 1 = m1 + 2 + off thV s.threads k + 1 := by omega
      refine ⟨fun m b e hm => ?_, .inl (by omega), ⟨k + 1, ((H'.set (m2 + 1) none).set m2 none).set (n3 + 1) (some ⟨.c 56, 5, TR ++ [thR (.own (m2 + 1 + 1 + 5 * s.threads[k].frames.length) 8 s.threads[k].frames.length) s.threads[k]]⟩), n3 + 2⟩, by simp; omega, ⟨h1, he, by simp only; omega, ?_, ?_, ⟨CR, ?_⟩, ⟨TR ++ [thR (.own (m2 + 1 + 1 + 5 * s.threads[k].frames.length) 8 s.threads[k].frames.length) s.threads[k]], ?_, by simp [hTl], fun i hi hik => ?_⟩, fun i hi => ?_, fun i hi => ?_, ?_⟩, (Wk.sub (by simp [wrap_add (show k < 9223372036854775807 by omega)])).trans (Wk.heap ?_)⟩
      · subst e
        rw [if_neg e2, if_neg (by omega), d5] at hm
        cases hm
        exact ⟨rfl, rfl⟩
      · simp only; rw [x1 _ (by omega) (by omega) (by omega), d0 _ (by omega)]; exact hbox
      · simp only; rw [x1 _ (by omega) (by omega) (by omega), d0 _ (by omega)]; exact hres
      · exact hce.low (Nat.le_refl _) (fun q h1 h2 => by show Hp.set _ _ _ _ = _; rw [x1 _ (by omega) (by omega) (by omega), d0 _ (by omega)]) (by show Hp.set _ _ _ _ = _; rw [x1 _ (by omega) (by omega) (by omega), d0 _ (by omega)])
      · simp only [show n3 + 2 - 1 = n3 + 1 by omega]; exact Hp.set_same _ _ _
      · simp only at hik
        by_cases e : i = k
        · subst e
          refine ⟨by rw [List.getElem?_append_right (by omega)]; simp [hTl, hB], FR, ?_⟩
          rw [← hB]
          exact at'.low (fun q ⟨j, h1, h2⟩ => x1 _ (by omega) (by omega) (by omega)) (x1 _ (by omega) (by omega) (by omega)) fun j hj => x1 _ (by simp only [rD]; omega) (by simp only [rD]; omega) (by simp only [rD]; omega)
        · obtain ⟨g1, FR', g4⟩ := hTh i hi (by omega)
          have h3 : off thV s.threads i + (4 + 5 * s.threads[i].frames.length) ≤ off thV s.threads k := off_lt (g := thV) (by omega) hi
          refine ⟨by rw [List.getElem?_append_left (by omega)]; exact g1, FR', g4.low (fun q ⟨j, h1, h2⟩ => by show Hp.set _ _ _ _ = _; rw [x1 _ (by omega) (by omega) (by omega), d0 _ (by omega)]) (by show Hp.set _ _ _ _ = _; rw [x1 _ (by omega) (by omega) (by omega), d0 _ (by omega)]) fun j hj => by
            simp only [rD]
            show Hp.set _ _ _ _ = _
            rw [x1 _ (by omega) (by omega) (by omega), d0 _ (by omega)]⟩
      · simp only; rw [x1 _ (by omega) (by omega) (by omega), d0 _ (by omega)]; exact hlow i hi
      · simp only at hi ⊢; rw [x1 _ (by omega) (by omega) (by omega)]; exact high' i (by omega)
      · refine HSol.set (HSol.none (HSol.none sol')) ?_
        intro e he c hc
        rcases List.mem_append.1 he with he | he
        · exact hsol _ _ hTb e he c hc
        · rw [List.mem_singleton] at he
          subst he
          simp [thR] at hc
          rcases hc with rfl | rfl | rfl | rfl | rfl <;> rfl
      · intro i y hy
        simp only at hy
        by_cases i1 : i = n3 + 1
        · subst i1; rw [Hp.set_same] at hy ⊢; rw [thR] at hy; exact hy
        rw [Hp.set_ne _ _ i1] at hy ⊢
        by_cases i2 : i = m2
        · subst i2; rw [Hp.set_same] at hy; cases hy
        rw [Hp.set_ne _ _ i2] at hy ⊢
        by_cases i3 : i = m2 + 1
        · subst i3; rw [Hp.set_same] at hy; cases hy
        rw [Hp.set_ne _ _ i3] at hy
        have i4 : i ≠ n3 := fun e => by subst e; rw [high' _ (by omega)] at hy; cases hy
        rw [Hp.set_ne _ _ i4, Hp.set_ne _ _ i3]; exact hy
    · obtain rfl : k = s.threads.length := by omega
      have f0 : ¬ nx = m2 := by omega
      have f1 : ¬ nx = m2 + 1 := by omega
      have f2 : ¬ nx = m2 + 1 + 1 := by omega
      have f3 : ¬ nx = m2 + 1 + 1 + 1 := by omega
      have f4 : ¬ nx = m2 + 1 + 1 + 1 + 1 := by omega
      have f5 : ¬ nx = nx + 1 := by omega
      rw [nilS] at hres
      simp (config := { maxSteps := 10000000 }) [hbox, hres, f0, f1, f2, f3, f4, f5]
      refine ⟨fun d x y _ e => by subst e; rfl, .inl (by omega), .inl (by omega), .inl (by omega), .inl (by omega), ?_⟩
      exact copiedO_fin s hm4 hn2 hce hTb hTl hTh hlow hhigh hsol h
end Go.Proofs.YtjbkinmdcaegcaaGreatDoor
