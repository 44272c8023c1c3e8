/- Several texts in one. -/
import Derived.Test.YtjbkinmdcaegcaaGreatDoorMf
import Derived.Test.YtjbkinmdcaegcaaGreatDoorMg
import Derived.Test.YtjbkinmdcaegcaaGreatDoorMo
set_option linter.unusedSimpArgs false
set_option linter.unusedVariables false
set_option maxRecDepth 100000
set_option maxHeartbeats 16000000
namespace Go.Proofs.YtjbkinmdcaegcaaGreatDoor
open Go.RowKit Go
theorem unwAt_ok (p : GProg) (hl : p.fns.length ≤ 60) (th : Nat) (steps : Int) (k : Nat) (fn at_ : Int) {m : Nat} {ts fs : List (List C)} {c0 c1 c2 c4 c5 c6 u1 u2 u3 u4 g2 g3 g4 g5 g6 g7 : C} {H : Hp} {nx nP nS nT nF : Nat} (hSol : HSol H)
    (hP : H nP = some ⟨.c 26, 3, [(eProg p).map .d]⟩) (hL : H nS = some ⟨.c 32, 8, [[c0, c1, c2, .own nT 5 m, c4, c5, c6, .d (eI steps)]]⟩) (hm : th < m) (hT : H nT = some ⟨.c 56, 5, ts⟩) (ht : ts[th]? = some [.own nF 8 (k + 1), u1, u2, u3, u4]) (hk : k ≤ 1000)
    (hF : H nF = some ⟨.c 61, 8, fs⟩) (hf : fs[k]? = some [.d (eI fn), .d (eI at_), g2, g3, g4, g5, g6, g7]) (h0 : 0 ≤ fn) (h1 : fn < p.fns.length) (h2 : 0 ≤ at_) (h3 : at_ < (fnAt p fn).code.length) {K : D → Hp → Nat → Prop}
    (h : ∀ nx', nx ≤ nx' → K (aD (eEvent ⟨0, steps, th, fn, at_, ((fnAt p fn).code.getD at_.toNat dIns).line, 0, 0, ⟨0, 0⟩, ⟨0, 0⟩⟩)) H nx') : ICall Tryz.prog 88 [.one (.ptr nP 3 0 0), .one (.ptr nS 8 0 0), dI th] H nx K := by
  refine ICall.fresh (by kernel_rfl) fun hfr => ?_
  have p0 := fresh_lt hfr hP
  have p1 := fresh_lt hfr hL
  have p2 := fresh_lt hfr hT
  have p3 := fresh_lt hfr hF
  have q0 : ¬ nP = nx := by omega
  have q1 : ¬ nS = nx := by omega
  have q2 : ¬ nT = nx := by omega
  have q3 : ¬ nF = nx := by omega
  have q4 : ¬ nP = nx + 1 := by omega
  have q5 : ¬ nS = nx + 1 := by omega
  have q6 : ¬ nT = nx + 1 := by omega
  have q7 : ¬ nF = nx + 1 := by omega
  have q8 : ¬ nP = nx + 2 := by omega
  have q9 : ¬ nF = nx + 2 := by omega
  have hfa := fn_at h0 h1
  obtain ⟨j, rfl⟩ : ∃ j : Nat, at_ = j := ⟨at_.toNat, by omega⟩
  simp only [Int.toNat_natCast] at h
  have hco : (fnAt p fn).code[j]? = some ((fnAt p fn).code.getD j dIns) := by
    rw [List.getD_eq_getElem?_getD, List.getElem?_eq_getElem (by omega)]; rfl
  generalize hins : (fnAt p fn).code.getD j dIns = ins at *
  generalize fnAt p fn = fq at *
  have hw : IntKind.i64.wrap (k : Int) = k := wrap_id (by omega) (by omega)
  refine ICall.keepH hfr ?_
  refine fni_ok [0,1,2,6,7,8,9,26] [(5, [0,1,0,4,0,16,48,112,0,256,1008,2032,4080,0,8192,32752,65520,131056,3,262147,786447,1835023,4194303,8388607], (.seg 0 (.seg 1 (.seg 2 (.seg 3 (.seg 4 (.seg 5 (.seg 6 (.seg 7 (.seg 8 (.seg 9 (.seg 10 (.seg 11 (.seg 12 (.seg 13 (.seg 14 (.seg 15 (.seg 16 (.seg 17 (.seg 18 (.eff 19 [2, 3, 5, 6, 7, 8, 9, 10, 11, 12, 13, 14, 15, 16, 17] (.seg 20 (.eff 21 [5, 6, 7, 8, 9, 10, 11, 12, 13, 14, 15, 16, 17] (.seg 22 (.eff 23 [] .last)))))))))))))))))))))))))] Tryz.func88 rfl (by kernel_rfl) rfl rfl rfl rfl (by kernel_rfl) ?_
  have r1 : ¬ nx = nx + 1 + 1 := by omega
  simp [hP, hL, hm, hT, ht, hF, hf, q0, q1, q2, q3, q4, q5, q6, q7, q8, q9, hw, h0, hfa, hco, r1]
  intro _
  have hg := hSol nF _ hF _ (List.mem_of_getElem? hf)
  refine ⟨?_, fun i hi => by repeat rw [if_neg (by omega)], ?_⟩
  · refine HSol.set (HSol.set (HSol.set (HSol.set (HSol.set hSol ?_) ?_) ?_) ?_) ?_
    rotate_left 2
    · exact fun e he c hc => by rw [List.mem_singleton] at he; subst he; exact hg c hc
    all_goals simp
  · refine h _ ?_
    omega
def tellE (e : GEvent) (kind : Int) (v : GVal) : GEvent := ⟨kind, e.step, e.thread, e.fn, e.at_, e.line, e.a, e.b, v, e.old⟩
def endK (fs : List GFrame) : Int := match catchN fs fs.length with
  | none => 17
  | some _ => 8
def throwEv (fs : List GFrame) (e : GEvent) (v : GVal) : List GEvent := [tellE e 7 v, tellE e (endK fs) v]
def evRow (e : GEvent) : List C := (eEvent e).map .d
theorem tell_ok (kind : Int) (e : GEvent) (v : GVal) {H : Hp} {nx nV nA : Nat} (hS : HSol H) (hV : H nV = some ⟨.c 50, 2, [[.d (eI v.kind), .d (eI v.n)]]⟩) (hA : H nA = some ⟨.c 76, 12, [evRow e]⟩) (hVA : nV ≠ nA) {K : D → Hp → Nat → Prop}
    (h : ∀ H' nx', nx ≤ nx' → HSol H' → (∀ i, i < nx → i ≠ nA → H' i = H i) → H' nA = some ⟨.c 76, 12, [evRow (tellE e kind v)]⟩ → K (aD (eEvent (tellE e kind v))) H' nx') : ICall Tryz.prog 144 [dI kind, .one (.ptr nV 2 0 0), .one (.ptr nA 12 0 0)] H nx K := by
  refine ICall.fresh (by kernel_rfl) fun hfr => ?_
  have p0 := fresh_lt hfr hV
  have p1 := fresh_lt hfr hA
  have q0 : ¬ nV = nx := by omega
  have q1 : ¬ nA = nx := by omega
  refine fni_ok [0,1,2,4] [(1, [0,0,1,5,15,31], (.seg 0 (.seg 1 (.seg 2 (.eff 3 [1] (.seg 4 (.eff 5 [] .last)))))))] Tryz.func144 rfl (by kernel_rfl) rfl rfl rfl rfl (by kernel_rfl) ?_
  have q2 : ¬ nx = nA := by omega
  rw [evRow] at hA
  simp [hV, hA, hVA, q0, q1, q2]
  refine ⟨?_, ?_⟩
  · refine HSol.set (HSol.set (HSol.set hS ?_) ?_) ?_ <;> simp
  · refine h _ _ ?_ ?_ (fun i h1 h2 => ?_) ?_
    · omega
    · refine HSol.set (HSol.set (HSol.set hS ?_) ?_) ?_ <;> simp
    · rw [Hp.set_ne _ _ (by omega), Hp.set_ne _ _ h2, Hp.set_ne _ _ (by omega)]
    · rw [Hp.set_ne _ _ (fun e => q2 e.symm), Hp.set_same]; rfl
structure DoS where
  k : Nat
  H : Hp
  cs : List GCell
  CR : List (List C)
  TR : List (List C)
structure DoI (H0 : Hp) (N : Nat → Prop) (th nC nT nF : Nat) (fs : List GFrame) (cs0 : List GCell) (ts : List GThread) (w : GVal) (x : DoS) : Prop where
  hk : x.k ≤ fs.length
  catch_ : catchN fs x.k = catchN fs fs.length
  done : doneL (dropG fs x.k) x.cs = doneL (dropG fs fs.length) cs0
  len : x.cs.length = cs0.length
  ce : CeAt x.H N nC x.cs x.CR
  th : ThAt x.H N th nT nF ts ⟨fs.take x.k, 0, 0, w⟩ x.TR
  low : ∀ i, i ≠ nC → i ≠ nT → x.H i = H0 i
  sol : HSol x.H
theorem CeAt.sol {H : Hp} {N : Nat → Prop} {nC : Nat} {cs : List GCell} {CR : List (List C)} (h : CeAt H N nC cs CR) : ∀ e ∈ CR, ∀ c ∈ e, C.solidC c = true := h.new.sol
theorem ThAt.solT {H : Hp} {N : Nat → Prop} {th nT nF : Nat} {ts : List GThread} {T : GThread} {TR : List (List C)} (h : ThAt H N th nT nF ts T TR) : ∀ e ∈ TR, ∀ c ∈ e, C.solidC c = true := h.new.sol
theorem frRow_lit (m n : Nat) (f : GFrame) : frRow m n f = [.d (eI f.fn), .d (eI f.at_), .d (eI f.to), .d (eI f.gen), .d (eI f.self.kind), .d (eI f.self.n), .own m 2 f.regs.length, .own n 2 f.tries.length] := rfl
theorem unwDo_ok (th : Nat) (v : GVal) (e : GEvent) (cs0 : List GCell) (ts : List GThread) (T : GThread) {N : Nat → Prop} {nS nC nT nF : Nat} {r t : Nat → Nat} {CR TR FR : List (List C)} {c1 c2 c4 c5 c6 c7 : C} {H : Hp} {nx : Nat} (hSol : HSol H)
    (hS : H nS = some ⟨.c 32, 8, [[.own nC 4 cs0.length, c1, c2, .own nT 5 ts.length, c4, c5, c6, c7]]⟩) (hth : th < ts.length)
    (hC : CeAt H N nC cs0 CR) (hT : ThAt H N th nT nF ts T TR) (hF : FsAt H N nF r t T.frames FR) (hA : Apt N nC nT nF r T.frames.length) (hN : ∀ q, N q → q < nx)
    (hn : nS ≠ nC ∧ nS ≠ nT ∧ nS ≠ nF ∧ ∀ i, i < T.frames.length → nS ≠ r i) (hreg : ∀ f ∈ T.frames, f.tries ≠ [] → 0 ≤ (lastTry f.tries).reg ∧ (lastTry f.tries).reg < f.regs.length) (hgen : ∀ f ∈ T.frames, 0 ≤ f.gen → f.gen < cs0.length) (hl : T.frames.length ≤ 30) (hlt : ∀ f ∈ T.frames, f.tries.length ≤ 1000)
    {K : D → Hp → Nat → Prop} (h : ∀ H' nx' eo CR' TR' FR', nx ≤ nx' → nx ≤ eo → HSol H' → (∀ i, i < nx → i ≠ nC → i ≠ nT → i ≠ nF → (∀ k, k < T.frames.length → i ≠ r k) → H' i = H i) → CeAt H' N nC (doneL (dropG T.frames T.frames.length) cs0) CR' → ThAt H' N th nT nF ts (throwT T v) TR' → FsAt H' N nF r t (throwT T v).frames FR' →
      H' eo = some ⟨.c 76, 12, (throwEv T.frames e v).map evRow⟩ → K (.one (.own eo 12 2)) H' nx') : ICall Tryz.prog 87 [.one (.ptr nS 8 0 0), dI th, aD (eVal v), aD (eEvent e)] H nx K := by
  refine ICall.fresh (by kernel_rfl) fun hfr => ?_
  have p0 := fresh_lt hfr hS
  have p1 := fresh_lt hfr hC.blk
  have p2 := fresh_lt hfr hT.blk
  have p3 := fresh_lt hfr hF.blk
  obtain ⟨n1, n2, n3, n4⟩ := hn
  refine fni_ok [0,1,2,3,6,7,8,9,10,11,12,13,14,15,39,55,94] [(12, [0,0,0,4,12,28,0,64,0,256,768,1792,0,7936,0,16384,0,16189,147261,409405,982847,2031423,4128575,8388607,16777215], (.seg 0 (.seg 1 (.seg 2 (.seg 3 (.seg 4 (.seg 5 (.seg 6 (.seg 7 (.seg 8 (.seg 9 (.seg 10 (.seg 11 (.seg 12 (.seg 13 (.seg 14 (.seg 15 (.seg 16 (.seg 17 (.seg 18 (.eff 19 [6, 7, 14, 15, 16] (.seg 20 (.seg 21 (.eff 22 [6, 7, 16] (.seg 23 (.eff 24 [] .last)))))))))))))))))))))))))), (15, [0,1,3,7,0,16,48,112,255,511,1023], (.seg 0 (.seg 1 (.seg 2 (.seg 3 (.seg 4 (.seg 5 (.seg 6 (.seg 7 (.seg 8 (.seg 9 (.eff 10 [] .last)))))))))))), (17, [0,0,0,1,9,25,63,127,255], (.seg 0 (.seg 1 (.seg 2 (.seg 3 (.seg 4 (.eff 5 [2] (.seg 6 (.seg 7 (.eff 8 [] .last))))))))))] Tryz.func87 rfl (by kernel_rfl) rfl rfl rfl rfl (by kernel_rfl) ?_
  simp
  refine tell_ok 7 e v (HSol.set (HSol.set hSol (by simp)) (by simp)) (by simp) (by simp; rfl) (by omega) (fun H1 nx1 hn1 sol1 low1 a1 => ?_)
  have m0 : H1 nS = H nS := by rw [low1 _ (by omega) (by omega), Hp.set_ne _ _ (by omega), Hp.set_ne _ _ (by omega)]
  have m1 : H1 nT = H nT := by rw [low1 _ (by omega) (by omega), Hp.set_ne _ _ (by omega), Hp.set_ne _ _ (by omega)]
  have q0 : ¬ nS = nx1 := by omega
  have q1 : ¬ nT = nx1 := by omega
  have q2 : ¬ nS = nT := n2
  have hTb := hT.blk
  have hTr := hT.own
  rw [thR] at hTr
  rw [hS] at m0
  rw [hTb] at m1
  obtain ⟨hTb2, hTr2⟩ := List.getElem?_eq_some_iff.1 hTr
  simp [m0, m1, q0, q1, q2, hth, hTb2, hTr2]
  intro _
  have hw0 : IntKind.i64.wrap ((T.frames.length : Int) - 1) = (T.frames.length : Int) - 1 := wrap_id (by omega) (by omega)
  have lowN : ∀ q, N q → H1.set nx1 (some ⟨.c 76, 12, [evRow (tellE e 7 v)]⟩) q = H q := fun q hq => by
    have := hN q hq
    rw [Hp.set_ne _ _ (by omega), low1 _ (by omega) (by omega), Hp.set_ne _ _ (by omega), Hp.set_ne _ _ (by omega)]
  have low2 : ∀ q, q < nx → H1.set nx1 (some ⟨.c 76, 12, [evRow (tellE e 7 v)]⟩) q = H q := fun q hq => by
    rw [Hp.set_ne _ _ (by omega), low1 _ (by omega) (by omega), Hp.set_ne _ _ (by omega), Hp.set_ne _ _ (by omega)]
  have hC2 := hC.low lowN (low2 _ p1)
  have hT2 := hT.low lowN (low2 _ p2)
  have hF2 := hF.low lowN (low2 _ p3) fun i hi => low2 _ (fresh_lt hfr (hF.regs i hi))
  have sol2 : HSol (H1.set nx1 (some ⟨.c 76, 12, [evRow (tellE e 7 v)]⟩)) := sol1.set (by simp [evRow])
  have b0 : H1.set nx1 (some ⟨.c 76, 12, [evRow (tellE e 7 v)]⟩) nx1 = some ⟨.c 76, 12, [evRow (tellE e 7 v)]⟩ := Hp.set_same _ _ _
  have b1 : H1.set nx1 (some ⟨.c 76, 12, [evRow (tellE e 7 v)]⟩) (nx + 1) = some ⟨.c 76, 12, [evRow (tellE e 7 v)]⟩ := by rw [Hp.set_ne _ _ (by omega)]; exact a1
  have b2 : H1.set nx1 (some ⟨.c 76, 12, [evRow (tellE e 7 v)]⟩) nx = some ⟨.c 50, 2, [[.d (eI v.kind), .d (eI v.n)]]⟩ := by
    rw [Hp.set_ne _ _ (by omega), low1 _ (by omega) (by omega), Hp.set_ne _ _ (by omega), Hp.set_same]
  rw [show ([[C.d (eI (tellE e 7 v).kind), C.d (eI (tellE e 7 v).step), C.d (eI (tellE e 7 v).thread), C.d (eI (tellE e 7 v).fn), C.d (eI (tellE e 7 v).at_), C.d (eI (tellE e 7 v).line), C.d (eI (tellE e 7 v).a), C.d (eI (tellE e 7 v).b), C.d (eI (tellE e 7 v).val.kind), C.d (eI (tellE e 7 v).val.n), C.d (eI (tellE e 7 v).old.kind), C.d (eI (tellE e 7 v).old.n)]] : List (List C)) = [evRow (tellE e 7 v)] from rfl]
  generalize H1.set nx1 (some ⟨.c 76, 12, [evRow (tellE e 7 v)]⟩) = H0 at *
  clear m0 m1 hTb hTr hTb2 hTr2 a1 low1 sol1
  have fin : ∀ (H4 H5 : Hp) (nx5 m : Nat) (CR' TR' FR' : List (List C)) (kd : Int), endK T.frames = kd → nx1 + 1 ≤ m → m ≤ nx5 → HSol H5 → (∀ i, i < m → i ≠ nx + 1 → H5 i = H4 i) → CeAt H4 N nC (doneL (dropG T.frames T.frames.length) cs0) CR' → ThAt H4 N th nT nF ts (throwT T v) TR' → FsAt H4 N nF r t (throwT T v).frames FR' →
      (∀ i, i < nx → i ≠ nC → i ≠ nT → i ≠ nF → (∀ k, k < T.frames.length → i ≠ r k) → H4 i = H i) → H4 nx1 = some ⟨.c 76, 12, [evRow (tellE e 7 v)]⟩ →
      (∀ (m : Nat) (b : Blk), nx1 = m → (if m = nx5 then some ⟨.c 76, 12, [evRow (tellE (tellE e 7 v) kd v)]⟩ else H5 m) = some b → b.t = .c 76 ∧ b.k = 12) ∧
      HSol (((H5.set nx5 (some ⟨.c 76, 12, [evRow (tellE (tellE e 7 v) kd v)]⟩)).set nx1 none).set (nx5 + 1) (some ⟨.c 76, 12, [evRow (tellE e 7 v), evRow (tellE (tellE e 7 v) kd v)]⟩)) ∧
      K (.one (.own (nx5 + 1) 12 2)) (((H5.set nx5 (some ⟨.c 76, 12, [evRow (tellE (tellE e 7 v) kd v)]⟩)).set nx1 none).set (nx5 + 1) (some ⟨.c 76, 12, [evRow (tellE e 7 v), evRow (tellE (tellE e 7 v) kd v)]⟩)) (nx5 + 1 + 1) := by
    intro H4 H5 nx5 m CR' TR' FR' kd hkd hm1 hm2 sol5 low5 hC5 hT5 hF5 low4 d4
    have d5 : H5 nx1 = some ⟨.c 76, 12, [evRow (tellE e 7 v)]⟩ := by rw [low5 _ (by omega) (by omega)]; exact d4
    have solF : HSol (((H5.set nx5 (some ⟨.c 76, 12, [evRow (tellE (tellE e 7 v) kd v)]⟩)).set nx1 none).set (nx5 + 1) (some ⟨.c 76, 12, [evRow (tellE e 7 v), evRow (tellE (tellE e 7 v) kd v)]⟩)) := (HSol.none (sol5.set (by simp [evRow]))).set (by simp [evRow])
    have lowF : ∀ i, i < nx → (((H5.set nx5 (some ⟨.c 76, 12, [evRow (tellE (tellE e 7 v) kd v)]⟩)).set nx1 none).set (nx5 + 1) (some ⟨.c 76, 12, [evRow (tellE e 7 v), evRow (tellE (tellE e 7 v) kd v)]⟩)) i = H4 i := fun i hi => by
      rw [Hp.set_ne _ _ (by omega), Hp.set_ne _ _ (by omega), Hp.set_ne _ _ (by omega), low5 _ (by omega) (by omega)]
    refine ⟨fun m b hm hb => ?_, solF, ?_⟩
    · subst hm
      rw [if_neg (by omega), d5] at hb
      cases hb
      exact ⟨rfl, rfl⟩
    · have hfl : (throwT T v).frames.length ≤ T.frames.length := by
        unfold throwT
        split
        · simp
        · simp; omega
      refine h _ _ _ CR' TR' FR' ?_ ?_ solF (fun i h1 h2 h3 h4 h5 => by rw [lowF i h1]; exact low4 i h1 h2 h3 h4 h5) (hC5.low (fun q hq => lowF q (hN q hq)) (lowF _ p1)) (hT5.low (fun q hq => lowF q (hN q hq)) (lowF _ p2)) (hF5.low (fun q hq => lowF q (hN q hq)) (lowF _ p3) fun i hi => lowF _ (fresh_lt hfr (hF.regs i (by omega)))) ?_
      · omega
      · omega
      · rw [Hp.set_same, throwEv]
        simp only [List.map_cons, List.map_nil]
        rw [hkd]
        rfl
  have hT3 := hT2.set hA.tn hth ⟨T.frames, 0, 0, T.val⟩ (e := [C.own nF 8 T.frames.length, C.d (Dt.lit (Value.int IntKind.i64 0)), C.d (Dt.lit (Value.int IntKind.i64 0)), C.d (eI T.val.kind), C.d (eI T.val.n)]) rfl
  have hI0 : DoI H0 N th nC nT nF T.frames cs0 ts T.val ⟨T.frames.length, H0.set nT (some ⟨.c 56, 5, TR.set th [C.own nF 8 T.frames.length, C.d (Dt.lit (Value.int IntKind.i64 0)), C.d (Dt.lit (Value.int IntKind.i64 0)), C.d (eI T.val.kind), C.d (eI T.val.n)]⟩), cs0, CR, TR.set th [C.own nF 8 T.frames.length, C.d (Dt.lit (Value.int IntKind.i64 0)), C.d (Dt.lit (Value.int IntKind.i64 0)), C.d (eI T.val.kind), C.d (eI T.val.n)]⟩ :=
    ⟨Nat.le_refl _, rfl, rfl, rfl, hC2.low (fun q hq => Hp.set_ne _ _ fun e => hA.tn (by rw [← e]; exact hq)) (Hp.set_ne _ _ hA.ct), by simp only [List.take_length]; exact hT3, fun i h1 h2 => Hp.set_ne _ _ h2, sol2.set hT3.solT⟩
  refine loopH_ok (ks := [0,1,2,3,6,7,8,9,10,11,12,13,14,15,39,55,94]) (pl := [(12, [0,0,0,4,12,28,0,64,0,256,768,1792,0,7936,0,16384,0,16189,147261,409405,982847,2031423,4128575,8388607,16777215], (.seg 0 (.seg 1 (.seg 2 (.seg 3 (.seg 4 (.seg 5 (.seg 6 (.seg 7 (.seg 8 (.seg 9 (.seg 10 (.seg 11 (.seg 12 (.seg 13 (.seg 14 (.seg 15 (.seg 16 (.seg 17 (.seg 18 (.eff 19 [6, 7, 14, 15, 16] (.seg 20 (.seg 21 (.eff 22 [6, 7, 16] (.seg 23 (.eff 24 [] .last)))))))))))))))))))))))))), (15, [0,1,3,7,0,16,48,112,255,511,1023], (.seg 0 (.seg 1 (.seg 2 (.seg 3 (.seg 4 (.seg 5 (.seg 6 (.seg 7 (.seg 8 (.seg 9 (.eff 10 [] .last)))))))))))), (17, [0,0,0,1,9,25,63,127,255], (.seg 0 (.seg 1 (.seg 2 (.seg 3 (.seg 4 (.eff 5 [2] (.seg 6 (.seg 7 (.eff 8 [] .last))))))))))]) (n0 := 126) (α := {x : DoS // DoI H0 N th nC nT nF T.frames cs0 ts T.val x}) (fun x => [(12, dI ((x.1.k : Int) - 1))]) (fun _ x => x.1.H) (fun _ => nx1 + 1) (fun x => x.1.k) ⟨_, hI0⟩ rfl (by kernel_rfl) (Wk.sub (by simp [hw0])) ?_
  clear hI0
  rintro ⟨⟨k, H2, cs, CR2, TR2⟩, hI⟩
  have hI2 := hI
  obtain ⟨hk, hcatch, hdone, hlen, hCe, hTh, hlow, hsol⟩ := hI2
  simp only at hk hcatch hdone hlen hCe hTh hlow hsol
  have hF3 : FsAt H2 N nF r t T.frames FR := hF2.low (fun q hq => hlow q (fun e => hA.c (by rw [← e]; exact hq)) (fun e => hA.tn (by rw [← e]; exact hq))) (hlow _ (fun e => hA.cf e.symm) (fun e => hA.tf e.symm)) fun i hi => hlow _ (hA.rs i hi).2.1 (hA.rs i hi).2.2.1
  have d0 : H2 nx1 = some ⟨.c 76, 12, [evRow (tellE e 7 v)]⟩ := by rw [hlow _ (by omega) (by omega)]; exact b0
  have d1 : H2 (nx + 1) = some ⟨.c 76, 12, [evRow (tellE e 7 v)]⟩ := by rw [hlow _ (by omega) (by omega)]; exact b1
  have d2 : H2 nx = some ⟨.c 50, 2, [[.d (eI v.kind), .d (eI v.n)]]⟩ := by rw [hlow _ (by omega) (by omega)]; exact b2
  have d3 : H2 nS = some ⟨.c 32, 8, [[.own nC 4 cs0.length, c1, c2, .own nT 5 ts.length, c4, c5, c6, c7]]⟩ := by rw [hlow _ n1 n2, low2 _ p0]; exact hS
  have hTb := hTh.blk
  obtain ⟨hTb2, hTr2⟩ := List.getElem?_eq_some_iff.1 hTh.own
  rw [thR] at hTr2
  cases k with
  | zero =>
    have w0 : ¬ nx = nT := by omega
    have w1 : ¬ nx + 1 = nT := by omega
    have w2 : ¬ nx1 = nT := by omega
    simp only [List.take_zero, List.length_nil] at hTr2
    simp [hTb, hTb2, hTr2, d2, w0]
    have hT4 := hTh.set hA.tn hth ⟨[], 4, 0, v⟩ (e := [.own nF 8 0, .d (eI 4), .d (eI 0), .d (eI v.kind), .d (eI v.n)]) rfl
    refine tell_ok 17 (tellE e 7 v) v (hsol.set hT4.solT) (by rw [Hp.set_ne _ _ w0]; exact d2) (by rw [Hp.set_ne _ _ w1]; exact d1) (by omega) (fun H5 nx5 hn5 sol5 low5 a5 => ?_)
    have d5 : H5 nx1 = some ⟨.c 76, 12, [evRow (tellE e 7 v)]⟩ := by rw [low5 _ (by omega) (by omega), Hp.set_ne _ _ w2]; exact d0
    have w5 : ¬ nx1 = nx5 := by omega
    simp [d5, evRow, w5]
    have hct : catchN T.frames T.frames.length = none := hcatch.symm
    have htT : throwT T v = ⟨[], 4, 0, v⟩ := by unfold throwT; rw [hct]
    have hcs : cs = doneL (dropG T.frames T.frames.length) cs0 := by rw [← hdone]; exact doneL_nil.symm
    subst hcs
    exact fin _ H5 nx5 (nx1 + 1) CR2 _ FR 17 (by rw [endK, hct]) (Nat.le_refl _) hn5 sol5 low5 (hCe.low (fun q hq => Hp.set_ne _ _ fun e => hA.tn (by rw [← e]; exact hq)) (Hp.set_ne _ _ hA.ct)) (by rw [htT]; exact hT4) (by rw [htT]; exact (hF3.low (fun q hq => Hp.set_ne _ _ fun e => hA.tn (by rw [← e]; exact hq)) (Hp.set_ne _ _ fun e => hA.tf e.symm) fun i hi => Hp.set_ne _ _ (hA.rs i hi).2.2.1).take 0)
      (fun i h1 h2 h3 h4 h5 => by rw [Hp.set_ne _ _ h3, hlow i h2 h3]; exact low2 i h1) (by rw [Hp.set_ne _ _ w2]; exact d0)
  | succ j =>
  have hj : j < T.frames.length := hk
  have hmin : (T.frames.take (j + 1)).length = j + 1 := by simp; omega
  rw [hmin] at hTr2
  have hFb := hF3.blk
  obtain ⟨hFl, hFr⟩ := List.getElem?_eq_some_iff.1 (hF3.row j hj)
  rw [frRow] at hFr
  have hwj : ((j + 1 : Nat) : Int) - 1 = j := by omega
  have q3 : ¬ nF = nT := fun e => hA.tf e.symm
  have q4 : ¬ nT = nF := hA.tf
  have hget : T.frames.getD j dFrame = T.frames[j] := by simp [List.getD_eq_getElem?_getD, hj]
  have q5 : ¬ nS = nT := n2
  have q6 : ¬ nC = nT := hA.ct
  have hwm : IntKind.i64.wrap (-1) = -1 := by decide
  have hwk : IntKind.i64.wrap ((j : Int) - 1) = (j : Int) - 1 := wrap_id (by omega) (by omega)
  have q7 : ¬ nT = nC := fun e => hA.ct e.symm
  by_cases ht0 : T.frames[j].tries = []
  · by_cases hg : 0 ≤ T.frames[j].gen
    · obtain ⟨g, hg2⟩ : ∃ g : Nat, T.frames[j].gen = g := ⟨_, (Int.toNat_of_nonneg hg).symm⟩
      have hg3 : g < cs.length := by have := hgen _ (List.getElem_mem hj) hg; omega
      have hg4 : g < cs0.length := by omega
      obtain ⟨a, b, hab, -⟩ := hCe.row g hg3
      have hCb := hCe.blk
      obtain ⟨hC3, hab2⟩ := List.getElem?_eq_some_iff.1 hab
      rw [ceR] at hab2
      simp [hTb, hTb2, hTr2, hwj, hFb, hFl, hFr, ht0, hg2, d3, hCb, hC3, hab2, hg4, q5, q6, q7, hwm]
      have hN1 := hCe.num hA.c hg3 2 hab
      have hT4 : ThAt (H2.set nC (some ⟨.c 48, 4, CR2.set g [.d (eI cs[g].kind), .d (eI 2), a, b]⟩)) N th nT nF ts ⟨T.frames.take (j + 1), 0, 0, T.val⟩ TR2 := hTh.low (fun q hq => Hp.set_ne _ _ fun e => hA.c (by rw [← e]; exact hq)) (Hp.set_ne _ _ q7)
      have hT5 := hT4.set hA.tn hth ⟨T.frames.take j, 0, 0, T.val⟩ (e := [.own nF 8 j, .d (eI 0), .d (eI 0), .d (eI T.val.kind), .d (eI T.val.n)]) (by simp [thR]; omega)
      refine ⟨by omega, ⟨j, (H2.set nC (some ⟨.c 48, 4, CR2.set g [.d (eI cs[g].kind), .d (eI 2), a, b]⟩)).set nT (some ⟨.c 56, 5, TR2.set th [.own nF 8 j, .d (eI 0), .d (eI 0), .d (eI T.val.kind), .d (eI T.val.n)]⟩), cs.set g ⟨cs[g].kind, 2, cs[g].vals, cs[g].frames⟩, _, _⟩, Nat.lt_succ_self j, ⟨Nat.le_of_lt hj, ?_, ?_, by simpa using hlen, hN1.low (fun q hq => Hp.set_ne _ _ fun e => hA.tn (by rw [← e]; exact hq)) (Hp.set_ne _ _ q6), hT5, fun i h1 h2 => by show Hp.set _ _ _ _ = _; rw [Hp.set_ne _ _ h2, Hp.set_ne _ _ h1]; exact hlow i h1 h2, (hsol.set hN1.sol).set hT5.solT⟩, Wk.sub (by simp [hwk])⟩
      · rw [← hcatch, catchN, if_pos (by rw [hget]; exact ht0)]
      · rw [← hdone, dropG, if_pos (by rw [hget]; exact ht0), hget, if_pos hg, List.singleton_append, ← doneL_cons hg]
        have : T.frames[j].gen.toNat = g := by omega
        rw [this]
        simp [List.getD_eq_getElem?_getD, hg3]
    · simp [hTb, hTb2, hTr2, hwj, hFb, hFl, hFr, ht0, hg, hwm]
      have hT5 := hTh.set hA.tn hth ⟨T.frames.take j, 0, 0, T.val⟩ (e := [.own nF 8 j, .d (eI 0), .d (eI 0), .d (eI T.val.kind), .d (eI T.val.n)]) (by simp [thR]; omega)
      refine ⟨by omega, ⟨j, H2.set nT (some ⟨.c 56, 5, TR2.set th [.own nF 8 j, .d (eI 0), .d (eI 0), .d (eI T.val.kind), .d (eI T.val.n)]⟩), cs, CR2, _⟩, Nat.lt_succ_self j, ⟨Nat.le_of_lt hj, ?_, ?_, hlen, hCe.low (fun q hq => Hp.set_ne _ _ fun e => hA.tn (by rw [← e]; exact hq)) (Hp.set_ne _ _ q6), hT5, fun i h1 h2 => by show Hp.set _ _ _ _ = _; rw [Hp.set_ne _ _ h2]; exact hlow i h1 h2, hsol.set hT5.solT⟩, Wk.sub (by simp [hwk])⟩
      · rw [← hcatch, catchN, if_pos (by rw [hget]; exact ht0)]
      · rw [← hdone, dropG, if_pos (by rw [hget]; exact ht0), hget, if_neg hg, List.nil_append]
  · obtain ⟨m, hm⟩ : ∃ m, T.frames[j].tries.length = m + 1 := ⟨_, (Nat.succ_pred_eq_of_pos (List.length_pos_iff.2 ht0)).symm⟩
    have hm2 := hlt _ (List.getElem_mem hj)
    have hwt : IntKind.i64.wrap (m : Int) = m := wrap_id (by omega) (by omega)
    obtain ⟨ys, hys⟩ := (hF3.tries j hj).2
    have htN := (hF3.tries j hj).1
    have hre := hF3.regs j hj
    obtain ⟨k1, k2⟩ := hreg _ (List.getElem_mem hj) ht0
    have hy : T.frames[j].tries[m] = lastTry T.frames[j].tries := by simp [lastTry, hm, List.getD_eq_getElem?_getD]
    rw [← hy] at k1 k2
    rw [tryBlk] at hys
    rw [valBlk] at hre
    have t1 : ¬ t j = nF := fun e => hA.f (by rw [← e]; exact htN)
    have t2 : ¬ t j = nT := fun e => hA.tn (by rw [← e]; exact htN)
    have t3 := hN _ htN
    have t4 : ¬ t j = nx1 + 1 := by omega
    have t5 : ¬ nF = nx1 + 1 := by omega
    have t6 := (hA.rs j hj).2.2.2
    have t7 : r j < nx := fresh_lt hfr (hF.regs j hj)
    have t8 : ¬ r j = nx1 + 1 := by omega
    have t9 : ¬ nx = nx1 + 1 := by omega
    have u1 : ¬ nx1 + 1 = nF := by omega
    have u2 : ¬ nx = nF := by omega
    have hL : ((T.frames[j].tries ++ ys).map fun v => (eTry v).map C.d)[m]? = some [.d (eI T.frames[j].tries[m].reg), .d (eI T.frames[j].tries[m].at_)] := by
      rw [List.getElem?_map, List.getElem?_append_left (by omega), List.getElem?_eq_getElem (by omega)]; rfl
    generalize ((T.frames[j].tries ++ ys).map fun v => (eTry v).map C.d) = L at hys hL
    obtain ⟨hLl, hL2⟩ := List.getElem?_eq_some_iff.1 hL
    generalize T.frames[j].tries[m] = y at *
    obtain ⟨q, hq⟩ : ∃ q : Nat, y.reg = q := ⟨y.reg.toNat, by omega⟩
    have hq2 : q < T.frames[j].regs.length := by omega
    simp [hTb, hTb2, hTr2, hwj, hFb, hFl, hFr, hm, hwt, hys, hLl, hL2, t1, t4, t5, t6, t8, t9, u1, u2, d2, hq, hq2, hre]
    intro _
    refine ⟨by omega, ?_⟩
    have hjk : j < (T.frames.take (j + 1)).length := by omega
    have hget2 : (T.frames.take (j + 1))[j] = T.frames[j] := List.getElem_take
    have F1 : FsAt (H2.set (nx1 + 1) (some ⟨.c 81, 2, [[.d (eI q), .d (eI y.at_)]]⟩)) N nF r t (T.frames.take (j + 1)) FR := (hF3.take (j + 1)).low (fun q hq => Hp.set_ne _ _ (by have := hN q hq; omega)) (Hp.set_ne _ _ t5) fun i hi => Hp.set_ne _ _ (by have := fresh_lt hfr (hF.regs i (by rw [hmin] at hi; omega)); omega)
    have F2 := F1.fr hjk (hA.less (by rw [hmin]; exact hj)) ⟨T.frames[j].fn, y.at_, T.frames[j].to, T.frames[j].gen, T.frames[j].self, T.frames[j].regs, T.frames[j].tries.take m⟩ (by rw [hget2]) ⟨T.frames[j].tries.drop m, by rw [hget2]; exact (List.take_append_drop m _).symm⟩ (e := [.d (eI T.frames[j].fn), .d (eI y.at_), .d (eI T.frames[j].to), .d (eI T.frames[j].gen), .d (eI T.frames[j].self.kind), .d (eI T.frames[j].self.n), .own (r j) 2 T.frames[j].regs.length, .own (t j) 2 m]) (by simp [frRow, hm])
    have F3 := F2.reg (k := j) (by simp; omega) (hA.less (by simp; omega)) (T.frames[j].regs.set q v) (by simp)
    simp only [List.set_set, List.getElem_set_self] at F3
    have hct : catchN T.frames T.frames.length = some j := by rw [← hcatch, catchN, if_neg (by rw [hget]; exact ht0)]
    have hcf : catchF T.frames[j] v = ⟨T.frames[j].fn, y.at_, T.frames[j].to, T.frames[j].gen, T.frames[j].self, T.frames[j].regs.set q v, T.frames[j].tries.take m⟩ := by
      unfold catchF
      rw [← hy, hq, hm]
      rfl
    have htT : throwT T v = ⟨(T.frames.take (j + 1)).set j (catchF T.frames[j] v), 0, 0, T.val⟩ := by unfold throwT; rw [hct]; simp only [hget]
    have hcs : cs = doneL (dropG T.frames T.frames.length) cs0 := by rw [← hdone, dropG, if_neg (by rw [hget]; exact ht0)]; exact doneL_nil.symm
    rw [← hcf] at F3
    rw [show (⟨.c 50, 2, (List.map (fun v => [C.d (eI v.kind), C.d (eI v.n)]) T.frames[j].regs).set q [C.d (eI v.kind), C.d (eI v.n)]⟩ : Blk) = valBlk (T.frames[j].regs.set q v) by simp [valBlk, List.map_set]]
    have mlow : ∀ i, i ≠ nx1 + 1 → i ≠ nF → i ≠ r j → ((H2.set (nx1 + 1) (some ⟨.c 81, 2, [[.d (eI q), .d (eI y.at_)]]⟩)).set nF (some ⟨.c 61, 8, FR.set j [.d (eI T.frames[j].fn), .d (eI y.at_), .d (eI T.frames[j].to), .d (eI T.frames[j].gen), .d (eI T.frames[j].self.kind), .d (eI T.frames[j].self.n), .own (r j) 2 T.frames[j].regs.length, .own (t j) 2 m]⟩)).set (r j) (some (valBlk (T.frames[j].regs.set q v))) i = H2 i := fun i h1 h2 h3 => by
      rw [Hp.set_ne _ _ h3, Hp.set_ne _ _ h2, Hp.set_ne _ _ h1]
    have msol : HSol (((H2.set (nx1 + 1) (some ⟨.c 81, 2, [[.d (eI q), .d (eI y.at_)]]⟩)).set nF (some ⟨.c 61, 8, FR.set j [.d (eI T.frames[j].fn), .d (eI y.at_), .d (eI T.frames[j].to), .d (eI T.frames[j].gen), .d (eI T.frames[j].self.kind), .d (eI T.frames[j].self.n), .own (r j) 2 T.frames[j].regs.length, .own (t j) 2 m]⟩)).set (r j) (some (valBlk (T.frames[j].regs.set q v)))) := ((hsol.set (by simp)).set F2.new.sol).set (valBlk_sol _)
    generalize ((H2.set (nx1 + 1) (some ⟨.c 81, 2, [[.d (eI q), .d (eI y.at_)]]⟩)).set nF (some ⟨.c 61, 8, FR.set j [.d (eI T.frames[j].fn), .d (eI y.at_), .d (eI T.frames[j].to), .d (eI T.frames[j].gen), .d (eI T.frames[j].self.kind), .d (eI T.frames[j].self.n), .own (r j) 2 T.frames[j].regs.length, .own (t j) 2 m]⟩)).set (r j) (some (valBlk (T.frames[j].regs.set q v))) = M at *
    have lowN3 : ∀ q, N q → M q = H2 q := fun q hq => mlow q (by have := hN q hq; omega) (fun e => hA.f (by rw [← e]; exact hq)) (fun e => (hA.rs j hj).1 (by rw [← e]; exact hq))
    refine tell_ok 8 (tellE e 7 v) v msol (by rw [mlow _ t9 u2 (by omega)]; exact d2) (by rw [mlow _ (by omega) (by omega) (by omega)]; exact d1) (by omega) (fun H5 nx5 hn5 sol5 low5 a5 => ?_)
    have d5 : H5 nx1 = some ⟨.c 76, 12, [evRow (tellE e 7 v)]⟩ := by rw [low5 _ (by omega) (by omega), mlow _ (by omega) (by omega) (by omega)]; exact d0
    have w5 : ¬ nx1 = nx5 := by omega
    simp [d5, evRow, w5]
    have T4 : ThAt M N th nT nF ts ⟨(T.frames.take (j + 1)).set j (catchF T.frames[j] v), 0, 0, T.val⟩ TR2 := by
      obtain ⟨b1, b2, b3, b4, b5⟩ := hTh.low lowN3 (mlow _ (by omega) q4 (fun e => (hA.rs j hj).2.2.1 e.symm))
      exact ⟨b1, b2, b3, b4, by rw [b5]; simp [thR]⟩
    exact fin M H5 nx5 (nx1 + 1 + 1) CR2 TR2 _ 8 (by rw [endK, hct]) (by omega) hn5 sol5 low5 (by rw [← hcs]; exact hCe.low lowN3 (mlow _ (by omega) hA.cf (fun e => (hA.rs j hj).2.1 e.symm))) (by rw [htT]; exact T4) (by rw [htT]; exact F3)
      (fun i h1 h2 h3 h4 h5 => by rw [mlow _ (by omega) h4 (h5 j hj), hlow i h2 h3]; exact low2 i h1) (by rw [mlow _ (by omega) (by omega) (by omega)]; exact d0)
noncomputable def throwE (p : GProg) (s : GState) (th : Int) (v : GVal) : Int :=
  if stateQ wordsT p s ≠ 0 then stateQ wordsT p s else if th < 0 ∨ (s.threads.length : Int) ≤ th then 5 else if (s.threads.getD th.toNat dThread).frames = [] then 8 else if fitsB s v = true then 0 else 1
def nilRow : List C := [.d .emp, .d .emp, .d .emp, .d .emp, .d .emp, .d .emp, .d (eI 0), .d (eI 0)]
noncomputable def throwL (p : GProg) (s : GState) (th : Nat) (v : GVal) : List GEvent := throwEv (s.threads.getD th dThread).frames (placeE p s th) v
theorem stRow_lit (n : Nat) (s : GState) : stRow n s = [.own n 4 s.cells.length, .own (n + 1) 2 s.shapes.length, .own (n + 2) 1 s.texts.length, .own (n + 3) 5 s.threads.length, .own (n + 4) 3 s.ends.length, .own (n + 5) 2 s.said.length, .d (eI s.asked), .d (eI s.steps)] := rfl
theorem StAt.row {H : Hp} {n : Nat} {s : GState} (h : StAt H n s) {N : Nat → Prop} (hN : ∀ i, n ≤ i → i < enB n s → N i) : CsS H N (stRow n s) (eState s) := by
  have e1 := off_mono (g := ceW) (l := s.cells) (Nat.zero_le s.cells.length)
  obtain ⟨o1, o2, o3, o4⟩ := h.oth.shw (N := N) fun i h1 h2 => hN i h1 (by simp only [enB, thB]; omega)
  exact ⟨ce_shw h.cells h.ce (hN _ (by omega) (by simp only [enB, thB]; omega)) fun i h1 h2 => hN i (by simp only [ceB] at h1; omega) (by simp only [enB, thB, ceB] at *; omega), o1, o2, th_shw h.threads h.th (hN _ (by omega) (by simp only [enB, thB]; omega)) fun i h1 h2 => hN i (by simp only [thB] at h1; omega) (by simp only [enB]; omega), o3, o4, .d rfl, .d rfl, trivial⟩
theorem CsS.at_ {H : Hp} {N : Nat → Prop} {n k : Nat} {t : BT} {cs : List C} {ds : List Dt} (hx : H n = some ⟨t, k, [cs]⟩) (hn : N n) (h : CsS H N cs ds) : Shw H N (.ptr n k 0 0) (.at_ true ds) := by
  refine .ptr (fun j => (cs[j]?).getD .any) hn hx rfl (fun j d hd => ?_) (fun j d hd => ?_)
  · obtain ⟨c, h1, -⟩ := (CsS.get h).2 j d hd
    simp [nth2, h1]
  · obtain ⟨c, h1, h2⟩ := (CsS.get h).2 j d hd
    simpa [h1] using h2
open Classical in
noncomputable def onlyNew (H Hf : Hp) (nx : Nat) : Hp := fun i => if i < nx then H i else if newAt Hf i then Hf i else none
theorem onlyNew_lt {H Hf : Hp} {nx i : Nat} (h : i < nx) : onlyNew H Hf nx i = H i := by simp [onlyNew, h]
theorem onlyNew_ge {H Hf : Hp} {nx i : Nat} (h : nx ≤ i) (hn : newAt Hf i) : onlyNew H Hf nx i = Hf i := by simp [onlyNew, Nat.not_lt.2 h, hn]
theorem onlyNew_sub {H Hf : Hp} {nx : Nat} (hl : ∀ i, i < nx → Hf i = H i) : ∀ i y, onlyNew H Hf nx i = some y → Hf i = some y := fun i y hy => by
  unfold onlyNew at hy
  split at hy
  · rw [hl i (by assumption)]; exact hy
  · split at hy
    · exact hy
    · cases hy
theorem onlyNew_new {H Hf : Hp} {nx i : Nat} (h : nx ≤ i) : newAt (onlyNew H Hf nx) i := fun y hy => by
  unfold onlyNew at hy
  rw [if_neg (by omega)] at hy
  split at hy
  · rename_i hn; exact hn y hy
  · cases hy
theorem onlyNew_sol {H Hf : Hp} {nx : Nat} (hl : ∀ i, i < nx → Hf i = H i) (h : HSol Hf) : HSol (onlyNew H Hf nx) := fun i y hy => h i y (onlyNew_sub hl i y hy)
def thH (H : Hp) (nx : Nat) (p : GProg) (s : GState) (v : GVal) : Hp := (((H.set nx (some ⟨.c 26, 3, [(eProg p).map .d]⟩)).set (nx + 1) (some ⟨.c 32, 8, [(eState s).map .d]⟩)).set (nx + 2) (some ⟨.c 50, 2, [[.d (eI v.kind), .d (eI v.n)]]⟩)).set (nx + 3) (some ⟨.c 32, 8, [nilRow]⟩)
theorem throw_ic (p : GProg) (hp : okP p) (s : GState) (hs : okSt s) (th : Int) (v : GVal) {H : Hp} {nx : Nat} (hS : HSol H) {K : D → Hp → Nat → Prop}
    (h0 : ∀ nx', nx ≤ nx' → throwE p s th v ≠ 0 → K (.tup [.agg nilRow, .one (.d .emp), dI (throwE p s th v)]) H nx')
    (h1 : throwE p s th v = 0 → ∀ H' nx' R eo, nx ≤ nx' → (∀ i, i < nx → H' i = H i) → (∀ i, nx ≤ i → newAt H' i) → HSol H' → CsS H' (fun i => nx ≤ i) R (eState (throwS s th.toNat v)) → (∀ c ∈ R, c.newC = true) → Shw H' (fun i => nx ≤ i) (.own eo 12 2) (.sl true ((throwL p s th.toNat v).map eEvent)) → K (.tup [.agg R, .one (.own eo 12 2), dI 0]) H' nx') :
    ICall Tryz.prog 34 [aD (eProg p), aD (eState s), dI th, aD (eVal v)] H nx K := by
  refine ICall.fresh (by kernel_rfl) fun hfr => ?_
  have tsol : HSol (thH H nx p s v) := by
    refine HSol.set (HSol.set (HSol.set (HSol.set hS ?_) ?_) ?_) ?_ <;> simp [nilRow]
  have bad : ∀ e : Int, throwE p s th v = e → e ≠ 0 → HSol (thH H nx p s v) ∧ cutK K (.tup [.agg nilRow, .one (.d .emp), dI e]) (thH H nx p s v) (nx + 4) := fun e he hn => by
    subst he
    refine ⟨tsol, H, fun i y hy => ?_, h0 _ (by omega) hn⟩
    have hi := fresh_lt hfr hy
    unfold thH
    rw [Hp.set_ne _ _ (by omega), Hp.set_ne _ _ (by omega), Hp.set_ne _ _ (by omega), Hp.set_ne _ _ (by omega)]
    exact hy
  rw [thH, nilRow] at bad
  refine ICall.cut ?_
  refine fni_ok [0,1,2,3,4,5,7,8,9,10,11,12,17,20,31,41] [(11, [0,0,0,4,15,31], (.seg 0 (.seg 1 (.seg 2 (.eff 3 [1] (.eff 4 [] (.seg 5 .last)))))))] Tryz.func34 rfl (by kernel_rfl) rfl rfl rfl rfl (by kernel_rfl) ?_
  simp [Nat.add_assoc]
  refine ⟨_, rfl, Wk.refl _, ?_⟩
  simp [vcC0]
  refine stCheck_ok p hp s hs ?_
  by_cases q1 : stateQ wordsT p s = 0
  case neg =>
    simp [q1]
    exact bad _ (by unfold throwE; rw [if_pos q1]) q1
  have q2 : throwE p s th v = if th < 0 ∨ (s.threads.length : Int) ≤ th then 5 else if (s.threads.getD th.toNat dThread).frames = [] then 8 else if fitsB s v = true then 0 else 1 := by unfold throwE; rw [if_neg (by simpa using q1)]
  simp [q1]
  by_cases c1 : th < 0
  · simp [c1, show ¬ 0 ≤ th by omega]
    exact bad 5 (by rw [q2, if_pos (.inl c1)]) (by decide)
  have c1' : 0 ≤ th := by omega
  by_cases c2 : (s.threads.length : Int) ≤ th
  · simp [c1', c2]
    intro _
    exact bad 5 (by rw [q2, if_pos (.inr c2)]) (by decide)
  obtain ⟨t, rfl⟩ : ∃ t : Nat, th = t := ⟨th.toNat, by omega⟩
  have ht : t < s.threads.length := by omega
  have hd : s.threads.getD t dThread = s.threads[t] := by simp [List.getD_eq_getElem?_getD, ht]
  have q3 : throwE p s t v = if s.threads[t].frames = [] then 8 else if fitsB s v = true then 0 else 1 := by rw [q2, if_neg (by omega), Int.toNat_natCast, hd]
  by_cases c3 : s.threads[t].frames = []
  · simp [c1', c2, ht, c3]
    intro _
    exact bad 8 (by rw [q3, if_pos c3]) (by decide)
  have q4 : throwE p s t v = if fitsB s v = true then 0 else 1 := by rw [q3, if_neg c3]
  simp [c1', c2, ht, c3]
  intro _ _
  refine ICall.ofPure (es := [pS false s, aD (eVal v)]) (by simp) ?_
  refine celFits_ok false s v ?_
  simp
  by_cases c4 : fitsB s v = true
  case neg =>
    rw [Bool.not_eq_true] at c4
    simp [c4]
    exact bad 1 (by rw [q4, if_neg (by rw [c4]; decide)]) (by decide)
  have q5 : throwE p s t v = 0 := by rw [q4, if_pos c4]
  have h2 := h1 q5
  clear bad h0 h1 q2 q3 q4
  simp [c4]
  rw [thH, nilRow] at tsol
  refine copy_ic s (sized_of q1) tsol (fun H1 low1 high1 sol1 at1 => ?_)
  have g0 : H1 nx = some ⟨.c 26, 3, [(eProg p).map .d]⟩ := by rw [low1 _ (by omega)]; simp [Hp.set]
  have g1 : H1 (nx + 1) = some ⟨.c 32, 8, [(eState s).map .d]⟩ := by rw [low1 _ (by omega)]; simp [Hp.set]
  have g2 : H1 (nx + 2) = some ⟨.c 50, 2, [[.d (eI v.kind), .d (eI v.n)]]⟩ := by rw [low1 _ (by omega)]; simp [Hp.set]
  have g3 : H1 (nx + 3) = some ⟨.c 32, 8, [nilRow]⟩ := by rw [low1 _ (by omega)]; simp [Hp.set, nilRow]
  have low2 : ∀ i, i < nx → H1 i = H i := fun i hi => by rw [low1 _ (by omega), Hp.set_ne _ _ (by omega), Hp.set_ne _ _ (by omega), Hp.set_ne _ _ (by omega), Hp.set_ne _ _ (by omega)]
  clear low1
  rw [stRow]
  simp [g0, g1, g2]
  have hn6 : nx + 6 ≤ enB (nx + 4 + 2) s := by simp only [enB, thB]; omega
  have hrow := at1.row (N := fun i => nx + 6 ≤ i ∧ i < enB (nx + 4 + 2) s) fun i h1 h2 => ⟨by omega, h2⟩
  have k1 := at1.ceAt ht
  have k2 := at1.thAt ht
  have k3 := at1.fsAt ht
  have k4 := StAt.apt (H := H1) (n := nx + 4 + 2) (s := s) ht
  have kN : ∀ q, cpN H1 (nx + 4 + 2) s t s.threads[t].frames.length q → nx + 6 ≤ q ∧ q < enB (nx + 4 + 2) s := fun q hq => ⟨by have := hq.1; omega, hq.2.1⟩
  have kth : nx + 6 ≤ thN (nx + 4 + 2) s t := by simp only [thN, thB]; omega
  obtain ⟨o1, o2, o3, o4⟩ := at1.othShw ht (fun q hq => hq)
  have hM : ∀ q, nx + 6 ≤ q → H1.set (nx + 1) (some ⟨.c 32, 8, [stRow (nx + 4 + 2) s]⟩) q = H1 q := fun q hq => Hp.set_ne _ _ (by omega)
  have hMs : H1.set (nx + 1) (some ⟨.c 32, 8, [stRow (nx + 4 + 2) s]⟩) (nx + 1) = some ⟨.c 32, 8, [stRow (nx + 4 + 2) s]⟩ := Hp.set_same _ _ _
  have hMp : H1.set (nx + 1) (some ⟨.c 32, 8, [stRow (nx + 4 + 2) s]⟩) nx = some ⟨.c 26, 3, [(eProg p).map .d]⟩ := by rw [Hp.set_ne _ _ (by omega)]; exact g0
  have hMr : H1.set (nx + 1) (some ⟨.c 32, 8, [stRow (nx + 4 + 2) s]⟩) (nx + 3) = some ⟨.c 32, 8, [nilRow]⟩ := by rw [Hp.set_ne _ _ (by omega)]; exact g3
  have hMl : ∀ i, i < nx → H1.set (nx + 1) (some ⟨.c 32, 8, [stRow (nx + 4 + 2) s]⟩) i = H i := fun i hi => by rw [Hp.set_ne _ _ (by omega)]; exact low2 i hi
  have hMo : HSol (H1.set (nx + 1) (some ⟨.c 32, 8, [stRow (nx + 4 + 2) s]⟩)) := sol1.set (by simp [stRow])
  rw [← stRow_lit]
  generalize H1.set (nx + 1) (some ⟨.c 32, 8, [stRow (nx + 4 + 2) s]⟩) = M at *
  have k1 := k1.low (fun q hq => hM q (kN q hq).1) (hM _ (by omega))
  have k2 := k2.low (fun q hq => hM q (kN q hq).1) (hM _ (by omega))
  have k3 := k3.low (fun q hq => hM q (kN q hq).1) (hM _ kth) (fun i hi => hM _ (by omega))
  have hsh : DsShw M (fun _ => True) [.one (.ptr nx 3 0 0), .one (.ptr (nx + 1) 8 0 0), dI t] [.one (.d (.at_ true (eProg p))), .one (.d (.at_ true (eState s))), dI t] := by
    refine ⟨⟨_, rfl, CsS.at_ hMp trivial (CsS.dat ?_)⟩, ⟨_, rfl, CsS.at_ hMs trivial (hrow.low fun q hq => ⟨trivial, hM q hq.1⟩)⟩, ⟨_, rfl, .d rfl⟩, trivial⟩
    simp
  refine ⟨_, hsh, ?_⟩
  obtain ⟨b1, b2⟩ := state_thread q1 (List.getElem_mem ht)
  have hp0 := (stateQ_iff.1 q1).1
  have hfl := sized_of q1
  have hlast : lastF (s.threads.getD t dThread).frames ∈ s.threads[t].frames := by
    rw [hd, lastF]
    have := List.length_pos_iff.2 c3
    rw [List.getD_eq_getElem?_getD, List.getElem?_eq_getElem (by omega)]
    exact List.getElem_mem _
  obtain ⟨-, -, b3, b4, b5, b6⟩ := frame_bnd hp0 (thread_frames q1 (List.getElem_mem ht) hlast)
  refine unwAtD_ok p s t ht (by have := hfl.threads; omega) (by rw [hd]; exact c3) (by rw [hd]; omega) b3 b4 b5 b6 ?_
  simp
  rw [stRow] at hMs
  refine unwDo_ok t v (placeE p s t) s.cells s.threads s.threads[t] hMo hMs ht k1 k2 k3 k4 (fun q hq => (kN q hq).2) ⟨by omega, by omega, by omega, fun i hi => by omega⟩ (fun f hf => thread_regs q1 (List.getElem_mem ht) hf) (fun f hf => thread_gens q1 (List.getElem_mem ht) hf) b2 (fun f hf => by have := (frame_bnd hp0 (thread_frames q1 (List.getElem_mem ht) hf)).2.1; omega) (fun H5 nx5 eo CR' TR' FR' hn5 heo sol5 low5 f1 f2 f3 f4 => ?_)
  have low6 : ∀ i, i < nx + 6 → H5 i = M i := fun i hi => low5 i (by omega) (by omega) (by omega) (by omega) fun k hk => by omega
  have h5s : H5 (nx + 1) = some ⟨.c 32, 8, [stRow (nx + 4 + 2) s]⟩ := by rw [low6 _ (by omega)]; exact hMs
  have h5r : H5 (nx + 3) = some ⟨.c 32, 8, [nilRow]⟩ := by rw [low6 _ (by omega)]; exact hMr
  rw [stRow] at h5s
  rw [nilRow] at h5r
  simp [h5s, h5r]
  rw [← stRow_lit]
  have solF : HSol (H5.set (nx + 3) (some ⟨.c 32, 8, [stRow (nx + 4 + 2) s]⟩)) := sol5.set (by simp [stRow])
  refine ⟨solF, ?_⟩
  have hF5 : ∀ q, nx + 6 ≤ q → H5.set (nx + 3) (some ⟨.c 32, 8, [stRow (nx + 4 + 2) s]⟩) q = H5 q := fun q hq => Hp.set_ne _ _ (by omega)
  have lowF : ∀ i, i < nx → H5.set (nx + 3) (some ⟨.c 32, 8, [stRow (nx + 4 + 2) s]⟩) i = H i := fun i hi => by rw [Hp.set_ne _ _ (by omega), low6 _ (by omega)]; exact hMl i hi
  generalize H5.set (nx + 3) (some ⟨.c 32, 8, [stRow (nx + 4 + 2) s]⟩) = Hf at *
  have hspec : ∀ q, cpN H1 (nx + 4 + 2) s t s.threads[t].frames.length q → H5 q = H1 q := fun q hq => by
    obtain ⟨z1, z2, z3, z4, z5, z6, z7⟩ := hq
    rw [low5 q z2 z3 z4 z5 z6, hM q (by omega)]
  have hnew : ∀ q, cpN H1 (nx + 4 + 2) s t s.threads[t].frames.length q → nx + 6 ≤ q ∧ newAt H5 q := fun q hq => ⟨(kN q hq).1, by
    have := hq.2.2.2.2.2.2
    intro x hx
    rw [hspec q hq] at hx
    exact this x hx⟩
  have hfin : ∀ q, nx + 6 ≤ q ∧ newAt H5 q → nx ≤ q ∧ onlyNew H Hf nx q = H5 q := fun q ⟨z1, z2⟩ => ⟨by omega, by
    rw [onlyNew_ge (by omega) (fun x hx => z2 x (by rw [← hF5 q z1]; exact hx)), hF5 q z1]⟩
  have x1 : Shw H5 (fun q => nx + 6 ≤ q ∧ newAt H5 q) (.own (nx + 4 + 2) 4 s.cells.length) (.sl true ((doneL (dropG s.threads[t].frames s.threads[t].frames.length) s.cells).map eCell)) := by
    have := f1.shw (N' := fun q => nx + 6 ≤ q ∧ newAt H5 q) hnew ⟨by omega, .of f1.blk f1.new⟩
    simpa [doneL] using this
  have x2 := f3.shw (N' := fun q => nx + 6 ≤ q ∧ newAt H5 q) hnew ⟨kth, .of f3.blk f3.new⟩ fun i hi => ⟨by omega, .of (f3.regs i hi) (valBlk_new _)⟩
  have x3 := f2.shw (N' := fun q => nx + 6 ≤ q ∧ newAt H5 q) ht hnew ⟨by omega, .of f2.blk f2.new⟩ x2
  have hoN : ∀ q, cpN H1 (nx + 4 + 2) s t s.threads[t].frames.length q → (nx + 6 ≤ q ∧ newAt H5 q) ∧ ∀ x, H1 q = some x → H5 q = some x := fun q hq => ⟨hnew q hq, fun x hx => by rw [hspec q hq]; exact hx⟩
  have xrow : CsS H5 (fun q => nx + 6 ≤ q ∧ newAt H5 q) (stRow (nx + 4 + 2) s) (eState (throwS s t v)) := by
    rw [throwS, hd]
    exact ⟨x1, o1.mono hoN, o2.mono hoN, x3, o3.mono hoN, o4.mono hoN, .d rfl, .d rfl, trivial⟩
  have hev : newRs ((throwEv s.threads[t].frames (placeE p s t) v).map evRow) := fun e he c hc => by
    obtain ⟨x, -, rfl⟩ := List.mem_map.1 he
    simp [evRow] at hc
    rcases hc with rfl | rfl | rfl | rfl | rfl | rfl | rfl | rfl | rfl | rfl | rfl | rfl <;> rfl
  have xe : Shw H5 (fun q => nx + 6 ≤ q ∧ newAt H5 q) (.own eo 12 2) (.sl true ((throwEv s.threads[t].frames (placeE p s t) v).map eEvent)) :=
    Shw.row ⟨by omega, .of f4 hev⟩ f4 rfl (by simp [throwEv]) (by simp only [List.map_map]; rfl) (fun e he => by obtain ⟨x, -, rfl⟩ := List.mem_map.1 he; rfl) (fun e he d hd => by
      obtain ⟨x, -, rfl⟩ := List.mem_map.1 he
      simp at hd
      rcases hd with rfl | rfl | rfl | rfl | rfl | rfl | rfl | rfl | rfl | rfl | rfl | rfl <;> rfl)
  refine ⟨onlyNew H Hf nx, onlyNew_sub lowF, ?_⟩
  refine h2 _ _ _ _ (by omega) (fun i hi => onlyNew_lt hi) (fun i hi => onlyNew_new hi) (onlyNew_sol lowF solF) ?_ ?_ ?_
  · rw [Int.toNat_natCast]; exact xrow.low hfin
  · intro c hc
    simp [stRow] at hc
    rcases hc with rfl | rfl | rfl | rfl | rfl | rfl | rfl | rfl <;> rfl
  · rw [throwL, Int.toNat_natCast, hd]
    exact xe.mono fun q hq => ⟨(hfin q hq).1, fun x hx => by rw [(hfin q hq).2]; exact hx⟩
theorem CsS.csShw {H : Hp} {N : Nat → Prop} : ∀ {cs : List C} {ds : List Dt}, CsS H N cs ds → CsShw H N cs (ds.map .d)
  | [], [], _ => trivial
  | _ :: _, _ :: _, h => ⟨⟨_, rfl, h.1⟩, CsS.csShw h.2⟩
  | [], _ :: _, h => h.elim
  | _ :: _, [], h => h.elim
theorem throw_ok (p : GProg) (hp : okP p) (s : GState) (hs : okSt s) (th : Int) (v : GVal) {H : Hp} {nx : Nat} (hS : HSol H) {K : D → Hp → Nat → Prop} (h0 : throwE p s th v ≠ 0 → K (.tup [aD (eState noS), dL true [], dI (throwE p s th v)]) H nx)
    (h1 : throwE p s th v = 0 → K (.tup [aD (eState (throwS s th.toNat v)), dL true ((throwL p s th.toNat v).map eEvent), dI 0]) H nx) : ICall Tryz.prog 34 [aD (eProg p), aD (eState s), dI th, aD (eVal v)] H nx K := by
  refine ICall.fresh (by kernel_rfl) fun hfr => ?_
  refine ICall.give hfr (throw_ic p hp s hs th v hS (fun nx' _ hn => ⟨fun _ _ => rfl, _, ?_, h0 hn⟩) (fun he H' nx' R eo hn low new sol hR hRn hE => ⟨low, _, ?_, h1 he⟩))
  · refine ⟨CsS.csShw (ds := eState noS) ⟨.emp, .emp, .emp, .emp, .emp, .emp, .d rfl, .d rfl, trivial⟩, ⟨_, rfl, .emp⟩, ⟨_, rfl, .d rfl⟩, trivial⟩
  · exact ⟨CsS.csShw hR, ⟨_, rfl, hE⟩, ⟨_, rfl, .d rfl⟩, trivial⟩
end Go.Proofs.YtjbkinmdcaegcaaGreatDoor
