/- Several texts in one: StG, SaE. -/
import Derived.Test.YtjbkinmdcaegcaaGreatDoorMa
import Derived.Test.YtjbkinmdcaegcaaGreatDoorMb
import Derived.Test.YtjbkinmdcaegcaaGreatDoorMc
import Derived.Test.YtjbkinmdcaegcaaGreatDoorMd
import Derived.Test.YtjbkinmdcaegcaaGreatDoorMe
import Derived.Test.YtjbkinmdcaegcaaGreatDoorMf
import Derived.Test.YtjbkinmdcaegcaaGreatDoorMg
set_option linter.unusedSimpArgs false
set_option linter.unusedVariables false
/- Package state, plainly: with another value in a register a state is as right. -/
namespace Go.Proofs.YtjbkinmdcaegcaaGreatDoor
open Go.RowKit Go
def dThread : GThread := ⟨[], 0, 0, ⟨0, 0⟩⟩
def turnF (f : GFrame) (reg : Nat) (v : GVal) : GFrame := ⟨f.fn, f.at_, f.to, f.gen, f.self, f.regs.set reg v, f.tries⟩
def turnT (t : GThread) (reg : Nat) (v : GVal) : GThread := ⟨t.frames.set (t.frames.length - 1) (turnF (t.frames.getD (t.frames.length - 1) dFrame) reg v), t.state, t.on, t.val⟩
def turnS (s : GState) (th reg : Nat) (v : GVal) : GState := ⟨s.cells, s.shapes, s.texts, s.threads.set th (turnT (s.threads.getD th dThread) reg v), s.ends, s.said, s.asked, s.steps⟩
section
variable {p : GProg} {s : GState} {th reg : Nat} {v : GVal}
theorem frame_turn {f : GFrame} (hv : fitsB s v = true) (h : frameB p s f = true) : frameB p s (turnF f reg v) = true := by
  simp only [frameB, Bool.and_eq_true] at h ⊢
  obtain ⟨⟨⟨⟨⟨⟨⟨⟨⟨h1, h2⟩, h3⟩, h4⟩, h5⟩, h6⟩, h7⟩, h8⟩, h9⟩, h10⟩ := h
  refine ⟨⟨⟨⟨⟨⟨⟨⟨⟨h1, h2⟩, h3⟩, h4⟩, by simpa [turnF] using h5⟩, h6⟩, h7⟩, h8⟩, h9⟩, ?_⟩
  rw [List.all_eq_true] at h10 ⊢
  intro x hx
  rcases List.mem_or_eq_of_mem_set hx with hx | rfl
  · exact h10 x hx
  · exact hv
theorem turn_get {fs : List GFrame} {j k : Nat} : (fs.set j (turnF (fs.getD j dFrame) reg v)).getD k dFrame = if j = k ∧ j < fs.length then turnF (fs.getD k dFrame) reg v else fs.getD k dFrame := by
  rw [getD_set]
  by_cases h : j = k ∧ j < fs.length
  · rw [if_pos h, if_pos h, h.1]
  · rw [if_neg h, if_neg h]
theorem turn_len {fs : List GFrame} {j k : Nat} : ((fs.set j (turnF (fs.getD j dFrame) reg v)).getD k dFrame).regs.length = (fs.getD k dFrame).regs.length := by
  rw [turn_get]; split <;> simp [turnF]
theorem stack_turn {fs : List GFrame} {j k : Nat} (hv : fitsB s v = true) (h : stackB p s fs k = true) : stackB p (turnS s th reg v) (fs.set j (turnF (fs.getD j dFrame) reg v)) k = true := by
  unfold stackB at h ⊢
  simp only [Bool.and_eq_true] at h ⊢
  obtain ⟨⟨⟨h1, h2⟩, h3⟩, h4⟩ := h
  rw [turn_len (k := k - 1)]
  rw [turn_get]
  by_cases e : j = k ∧ j < fs.length
  · rw [if_pos e]
    exact ⟨⟨⟨frame_turn hv h1, h2⟩, h3⟩, h4⟩
  · rw [if_neg e]
    exact ⟨⟨⟨h1, h2⟩, h3⟩, h4⟩
theorem gens_turn {fs : List GFrame} {j : Nat} (hj : j < fs.length) : gensF p (fs.set j (turnF (fs.getD j dFrame) reg v)) = gensF p fs := by
  unfold gensF
  induction fs generalizing j with
  | nil => simp at hj
  | cons f fs ih =>
    cases j with
    | zero =>
      simp only [List.set_cons_zero, List.getD_cons_zero, List.filter_cons]
      rw [show (turnF f reg v).fn = f.fn from rfl]
      split <;> rfl
    | succ j =>
      simp only [List.set_cons_succ, List.getD_cons_succ, List.filter_cons]
      have := ih (j := j) (by simpa using hj)
      split
      · simp only [List.map_cons, this]
      · exact this
theorem thread_turn (hv : fitsB s v = true) {t : GThread} (h : threadB p s t = true) : threadB p (turnS s th reg v) t = true := by
  simp only [threadB, Bool.and_eq_true] at h ⊢
  obtain ⟨⟨⟨⟨⟨h1, h2⟩, h3⟩, h4⟩, h5⟩, h6⟩ := h
  refine ⟨⟨⟨⟨⟨h1, h2⟩, h3⟩, h4⟩, ?_⟩, h6⟩
  unfold onB at h5 ⊢
  have : (turnS s th reg v).threads.length = s.threads.length := by simp [turnS]
  rw [this]; exact h5
theorem thread_turned (hv : fitsB s v = true) {t : GThread} (hf : t.frames ≠ []) (h : threadB p s t = true) : threadB p (turnS s th reg v) (turnT t reg v) = true := by
  have h' := thread_turn (th := th) (reg := reg) hv h
  simp only [threadB, Bool.and_eq_true] at h h' ⊢
  obtain ⟨⟨⟨⟨⟨h1, h2⟩, h3⟩, h4⟩, -⟩, h6⟩ := h
  obtain ⟨⟨-, h5⟩, -⟩ := h'
  refine ⟨⟨⟨⟨⟨?_, h2⟩, h3⟩, h4⟩, h5⟩, ?_⟩
  · have e1 : decide ((turnT t reg v).frames = []) = decide (t.frames = []) := by
      have : (turnT t reg v).frames ≠ [] := by simpa [turnT] using hf
      rw [decide_eq_false this, decide_eq_false hf]
    rw [e1]; exact h1
  · have : (turnT t reg v).frames.length = t.frames.length := by simp [turnT]
    rw [this]
    exact all_mono h6 fun k _ hk => stack_turn hv hk
theorem turn_mem {t : GThread} (h : t ∈ (turnS s th reg v).threads) : t ∈ s.threads ∨ (th < s.threads.length ∧ t = turnT (s.threads.getD th dThread) reg v) := by
  simp only [turnS] at h
  by_cases hl : th < s.threads.length
  · rcases List.mem_or_eq_of_mem_set h with h | h
    · exact .inl h
    · exact .inr ⟨hl, h⟩
  · rw [List.set_eq_of_length_le (by omega)] at h
    exact .inl h
theorem flat_set {α β : Type} {l : List α} {f : α → List β} {i : Nat} {x d : α} (h : f x = f (l.getD i d)) : (l.set i x).flatMap f = l.flatMap f := by
  induction l generalizing i with
  | nil => rfl
  | cons a l ih =>
    cases i with
    | zero => simp only [List.set_cons_zero, List.flatMap_cons, List.getD_cons_zero] at h ⊢; rw [h]
    | succ i => simp only [List.set_cons_succ, List.flatMap_cons, List.getD_cons_succ] at h ⊢; rw [ih h]
theorem gensS_turn (hf : (s.threads.getD th dThread).frames ≠ []) : gensS p (turnS s th reg v) = gensS p s := by
  unfold gensS turnS
  refine flat_set (d := dThread) ?_
  exact gens_turn (by have := List.length_pos_iff.2 hf; omega)
theorem turn_state (h : stateQ wordsT p s = 0) (hv : fitsB s v = true) (hf : (s.threads.getD th dThread).frames ≠ []) : stateQ wordsT p (turnS s th reg v) = 0 := by
  have hth : th < s.threads.length := by
    by_cases hl : th < s.threads.length
    · exact hl
    · rw [List.getD_eq_getElem?_getD, List.getElem?_eq_none (by omega)] at hf
      exact absurd rfl hf
  have hin : s.threads.getD th dThread ∈ s.threads := by rw [List.getD_eq_getElem?_getD, List.getElem?_eq_getElem hth]; exact List.getElem_mem hth
  rw [stateQ_iff] at h ⊢
  obtain ⟨a1, a2, a3, a4⟩ := h
  refine ⟨a1, a2, ?_, ?_⟩
  · simp only [stateLarge, Bool.or_eq_false_iff, decide_eq_false_iff_not, List.any_eq_false, decide_eq_true_eq] at a3 ⊢
    refine ⟨by simpa [turnS] using a3.1, fun t ht => ?_⟩
    rcases turn_mem ht with ht | ⟨-, rfl⟩
    · exact a3.2 t ht
    · simpa [turnT] using a3.2 _ hin
  · simp only [stateB, Bool.and_eq_true, decide_eq_true_eq] at a4 ⊢
    obtain ⟨⟨⟨⟨b1, b2⟩, b3⟩, b4⟩, b5⟩ := a4
    refine ⟨⟨⟨⟨?_, b2⟩, ?_⟩, by rw [gensS_turn hf]; exact b4⟩, ?_⟩
    · simp only [beginsB, Bool.and_eq_true, Bool.not_eq_true', decide_eq_false_iff_not] at b1 ⊢
      refine ⟨b1.1, fun e => b1.2 ?_⟩
      simpa [turnS] using e
    · rw [List.all_eq_true] at b3 ⊢
      intro t ht
      rcases turn_mem ht with ht | ⟨-, rfl⟩
      · exact thread_turn hv (b3 t ht)
      · exact thread_turned hv hf (b3 _ hin)
    · unfold goesB at b5 ⊢
      rw [gensS_turn hf]; exact b5
end
end Go.Proofs.YtjbkinmdcaegcaaGreatDoor
/- Package state: the law of a state in which a register is written. -/
namespace Go.Proofs.YtjbkinmdcaegcaaGreatDoor
open Go.RowKit Go
set_option linter.unusedSimpArgs false
theorem RsS.set {H : Hp} {N : Nat → Prop} {r : List C} {e : List Dt} (hr : CsS H N r e) : ∀ {rs : List (List C)} {es : List (List Dt)} {i : Nat}, RsS H N rs es → RsS H N (rs.set i r) (es.set i e)
  | [], [], _, _ => trivial
  | _ :: _, _ :: _, 0, h => ⟨hr, h.2⟩
  | _ :: _, _ :: _, _ + 1, h => ⟨h.1, RsS.set hr h.2⟩
  | [], _ :: _, _, h => h.elim
  | _ :: _, [], _, h => h.elim
theorem frames_small {p : GProg} {s : GState} (h : stateQ wordsT p s = 0) {k : Nat} (hk : k < s.threads.length) : (thrAt s k).frames.length ≤ 30 ∧ ∀ f ∈ (thrAt s k).frames, frameB p s f = true ∧ f.regs.length ≤ 60 := by
  rw [stateQ_iff] at h
  obtain ⟨a1, -, a3, a4⟩ := h
  have h4 : thrAt s k = s.threads[k] := by simp [thrAt, List.getD_eq_getElem?_getD, List.getElem?_eq_getElem hk]
  rw [h4]
  refine ⟨?_, fun f hf => ?_⟩
  · simp only [stateLarge, Bool.or_eq_false_iff, decide_eq_false_iff_not, List.any_eq_false, decide_eq_true_eq] at a3
    have := a3.2 _ (List.getElem_mem hk)
    omega
  · obtain ⟨-, -, h3, -⟩ := state_iff.1 a4
    have hth := (thread_iff.1 (List.all_eq_true.1 h3 _ (List.getElem_mem hk))).2.2.2.2.2
    obtain ⟨i, hi, rfl⟩ := List.getElem_of_mem hf
    have hfr := ((stack_iff hi).1 (hth i hi)).1
    refine ⟨hfr, ?_⟩
    have g := frame_iff.1 hfr
    have := (large_iff.1 (check_zero a1).1).2.2.2.2 _ (fn_mem g.1.1 g.1.2)
    omega
theorem turn_rel (s : GState) (t r q : Nat) (v : GVal) (fs : List GFrame) (f : GFrame) (xst xon : Int) (xv : GVal) (hx : s.threads.getD t dThread = ⟨fs, xst, xon, xv⟩) (hq : fs.length = q + 1) (hf : fs[q]? = some f) {H : Hp}
    (h4 : H 4 = some ⟨.c 56, 5, (s.threads.map fun x => (eThread x).map .d).set t [.own 5 8 (q + 1), .d (eI xst), .d (eI xon), .d (eI xv.kind), .d (eI xv.n)]⟩)
    (h5 : H 5 = some ⟨.c 61, 8, (fs.map fun x => (eFrame x).map .d).set q [.d (eI f.fn), .d (eI f.at_), .d (eI f.to), .d (eI f.gen), .d (eI f.self.kind), .d (eI f.self.n), .own 6 2 f.regs.length, .d (.sl true (f.tries.map eTry))]⟩)
    (h6 : H 6 = some ⟨.c 50, 2, (f.regs.map fun x => (eVal x).map .d).set r [.d (eI v.kind), .d (eI v.n)]⟩) :
    CsRel H (fun i => i = 4 ∨ i = 5 ∨ i = 6) [.d (.sl true (s.cells.map eCell)), .d (.sl true (s.shapes.map eShape)), .d (.sl true (s.texts.map eStr)), .own 4 5 s.threads.length, .d (.sl true (s.ends.map eEnd)), .d (.sl true (s.said.map eVal)), .d (eI s.asked), .d (eI s.steps)] ((eState (turnS s t r v)).map .d) := by
  refine ⟨.inl rfl, .inl rfl, .inl rfl, .inr ⟨_, rfl, ?_⟩, .inl rfl, .inl rfl, .inl rfl, .inl rfl, trivial⟩
  refine Shw.rows (.inl rfl) h4 (by simp [turnS]) (rowsLen (f := eThread) fun _ => rfl) ?_
  have hd : fs.getD (fs.length - 1) dFrame = f := by rw [hq, List.getD_eq_getElem?_getD, Nat.add_sub_cancel, hf]; rfl
  have e : (turnS s t r v).threads.map eThread = (s.threads.map eThread).set t (eThread (turnT ⟨fs, xst, xon, xv⟩ r v)) := by
    simp only [turnS, hx, List.map_set]
  rw [e]
  refine RsS.set ?_ (RsS.dat (e := eThread) (by simp))
  refine ⟨?_, .d rfl, .d rfl, .d rfl, .d rfl, trivial⟩
  simp only [turnT]
  rw [hd, hq, Nat.add_sub_cancel]
  refine Shw.rows (.inr (.inl rfl)) h5 (by simp [hq]) (rowsLen (f := eFrame) fun _ => rfl) ?_
  rw [List.map_set]
  refine RsS.set ?_ (RsS.dat (e := eFrame) (by simp))
  refine ⟨.d rfl, .d rfl, .d rfl, .d rfl, .d rfl, .d rfl, ?_, .d rfl, trivial⟩
  refine Shw.rows (.inr (.inr rfl)) h6 (by simp [turnF]) (rowsLen (f := eVal) fun _ => rfl) ?_
  simp only [turnF, List.map_set]
  refine RsS.set ?_ (RsS.dat (e := eVal) fun x d hd => by simp [eVal] at hd; rcases hd with rfl | rfl <;> rfl)
  exact ⟨.d rfl, .d rfl, trivial⟩
set_option maxRecDepth 100000 in
set_option maxHeartbeats 2000000 in
theorem stateTurned_ok (p : GProg) (hp : okP p) (s : GState) (hs : okSt s) (th reg : Int) (v : GVal) : DPure Tryz.prog 5 [aD (eProg p), aD (eState s), dI th, dI reg, aD (eVal v)] fun d _ => d = dB true := by
  obtain ⟨vk, vn⟩ := v
  refine fn_ok [0,1,2,3,4,5,6,9,10,11,12,13,14,43,118] [(11, [0,1,3,7,0,0,63,127], (.seg 0 (.seg 1 (.seg 2 (.seg 3 (.seg 4 (.seg 5 (.seg 6 (.eff 7 [] .last)))))))))] Tryz.func5 rfl (by kernel_rfl) rfl rfl rfl rfl (by kernel_rfl) ?_
  simp
  refine stateLives_ok ?_
  simp
  refine ⟨_, rfl, Wk.refl _, ?_⟩; simp [vcC0]
  refine stCheck_ok p hp s hs ?_
  by_cases c1 : stateQ wordsT p s = 0
  case neg =>
    simp [c1]
    refine stateLives_ok ?_
    simp
  by_cases c2 : 0 ≤ th
  case neg =>
    simp [c1, c2]
    refine stateLives_ok ?_
    simp
  obtain ⟨t, rfl⟩ : ∃ t : Nat, th = t := ⟨th.toNat, by omega⟩
  by_cases c3 : t < s.threads.length
  case neg =>
    simp [c1, c3]
    intro _
    refine stateLives_ok ?_
    simp
  have ht := thr_get (s := s) (n := (t : Int)) (by omega) (by omega)
  rw [Int.toNat_natCast] at ht
  generalize hT : vc Tryz.prog _ _ _ (Code.seq (Code.region 3 _ _) _) = T
  simp [c1, c3, ht]
  intro _ _
  by_cases c4 : s.threads[t].frames = []
  · simp [c4]
    refine stateLives_ok ?_
    simp
  simp [c4]
  subst hT
  rw [vc]
  generalize hT : vc Tryz.prog _ _ _ (Code.seq (Code.region 4 _ _) _) = T
  have hrest : ∀ b : Bool, (b = true → fitsB s ⟨vk, vn⟩ = true) → T (retQ Tryz.prog [.tmp 10] fun d _ => d = dB true) ⟨148, [(0, aD (eProg p)), (1, aD (eState s)), (2, dI t), (3, dI reg), (4, aD (eVal ⟨vk, vn⟩)), (5, .one (.ptr 0 3 0 0)), (6, .one (.ptr 1 8 0 0)), (9, .one (.ptr 2 2 0 0)), (10, dB false), (11, dB b), (43, dB false)],
      ((Hp.none.set 0 (some ⟨.c 26, 3, [(eProg p).map .d]⟩)).set 1 (some ⟨.c 32, 8, [(eState s).map .d]⟩)).set 2 (some ⟨.c 50, 2, [(eVal ⟨vk, vn⟩).map .d]⟩), 3⟩ := by
    intro b hb
    have hst := threads_on c1 c3
    obtain ⟨hfl, hfr⟩ := frames_small c1 c3
    have hte := (List.getElem?_eq_some_iff.1 ht).2
    rw [hte] at c4
    have hge : s.threads.getD t dThread = thrAt s t := by simp [thrAt, dThread]
    generalize thrAt s t = x at *
    obtain ⟨fs, xst, xon, xv⟩ := x
    simp only at hfl c4 hfr
    obtain ⟨q, hq⟩ : ∃ q : Nat, fs.length = q + 1 := ⟨fs.length - 1, by have : fs.length ≠ 0 := fun e => c4 (List.length_eq_zero_iff.1 e); omega⟩
    have hql : q < fs.length := by omega
    have hfq : fs[q]? = some fs[q] := List.getElem?_eq_getElem hql
    have hreg := (hfr _ (List.getElem_mem hql)).2
    generalize hF : fs[q] = f at *
    subst hT
    simp
    refine cloneTh_ok true (s.threads.map eThread) (by simp) (by simp) (by simp; omega) ?_
    simp [c3, ht, hte]
    refine cloneFr_ok true (fs.map eFrame) (by simp) (by simp) (by simp; omega) ?_
    have hwq : IntKind.i64.wrap (q : Int) = q := wrap_id (by omega) (by omega)
    have hq1 : (q : Int) < q + 1 := by omega
    by_cases r0 : 0 ≤ reg
    case neg =>
      simp [c3, ht, hte, hq, hwq, hq1, hfq, hF, r0]
    obtain ⟨r, rfl⟩ : ∃ r : Nat, reg = r := ⟨reg.toNat, by omega⟩
    by_cases r1 : r < f.regs.length
    case neg =>
      simp [c3, ht, hte, hq, hwq, hq1, hfq, hF, r1]
    simp [c3, ht, hte, hq, hwq, hq1, hfq, hF, r1]
    intro _ _
    refine cloneV_ok true (f.regs.map eVal) (by simp) (by simp) (by simp; omega) ?_
    simp [c3, ht, hte, hq, hwq, hq1, hfq, hF, r1]
    intro hb1
    refine ⟨⟨148, [(10, dB false), (142, dB false), (143, aD (eProg p)), (144, aD (eState (turnS s t r ⟨vk, vn⟩)))], Hp.none, 7⟩, rfl,
      Wk.deepT (fun i => i = 4 ∨ i = 5 ∨ i = 6) (tm1 := [(10, dB false), (142, dB false), (143, aD (eProg p)), (144, .agg [.d (.sl true (s.cells.map eCell)), .d (.sl true (s.shapes.map eShape)), .d (.sl true (s.texts.map eStr)), .own 4 5 s.threads.length, .d (.sl true (s.ends.map eEnd)), .d (.sl true (s.said.map eVal)), .d (eI s.asked), .d (eI s.steps)])]) rfl
        ⟨rfl, DRel.refl _, rfl, DRel.refl _, rfl, DRel.refl _, rfl, turn_rel s t r q ⟨vk, vn⟩ fs f xst xon xv hge hq hfq rfl rfl rfl, trivial⟩ (fun i y hy => by simp [Hp.none] at hy), ?_⟩
    simp [vcC0]
    refine stCheck_ok p hp (turnS s t r ⟨vk, vn⟩) hs ?_
    rw [turn_state c1 (hb hb1) (by rw [hge]; exact c4)]
    simp
  by_cases v0 : vk = 0
  · subst v0
    simp [c3, ht]
    split
    · rename_i e
      subst e
      exact hrest true fun _ => rfl
    · exact hrest false fun e => by cases e
  by_cases v1 : vk = 1
  · subst v1
    simp [c3, ht]
    split
    · rename_i e
      subst e
      exact hrest true fun _ => rfl
    · exact hrest false fun e => by cases e
  by_cases v2 : vk = 2
  · subst v2
    simp [c3, ht]
    split
    · rename_i e
      subst e
      exact hrest true fun _ => rfl
    · exact hrest false fun e => by cases e
  by_cases v4 : vk = 4
  · subst v4
    by_cases w0 : 0 ≤ vn
    · simp [c3, ht, w0]
      intro _
      refine hrest _ ?_
      intro e
      simp at e
      simp [fitsB, rightB, w0, e]
    · simp [c3, ht, w0]
      refine hrest _ ?_
      intro e
      simp at e
  simp [c3, ht, v0, v1, v2, v4]
  refine hrest _ ?_
  intro e
  simp at e
end Go.Proofs.YtjbkinmdcaegcaaGreatDoor
