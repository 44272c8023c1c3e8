/- Several texts in one. -/
import Derived.Test.YtbphdcffpobcbaaGreatDoorMka
import Derived.Test.YtbphdcffpobcbaaGreatDoorMkb
import Derived.Test.YtbphdcffpobcbaaGreatDoorMkd
set_option linter.unusedSimpArgs false
set_option linter.unusedVariables false
set_option maxRecDepth 100000
set_option maxHeartbeats 16000000
namespace Go.Proofs.YtbphdcffpobcbaaGreatDoor
open Go.RowKit Go
structure CallK (H : Hp) (nx lo nS : Nat) (A : Ad → Nat) (s : GState) (R : GState × GVal × Int) (K : D → Hp → Nat → Prop) : Prop where
  bad : 0 ≤ R.2.2 → ∀ nx', nx ≤ nx' → K (.tup [aD (eVal nilG), dI R.2.2]) H nx'
  ok : R.2.2 = -1 → ∀ H' nx' A', nx ≤ nx' → (∀ q, q < nx → (∀ x, Live s x → q ≠ A x) → q ≠ nS → H' q = H q) → (∀ q, nx' ≤ q → H' q = none) → HSol H' → OwnS H' lo A' R.1 → H' nS = some (stB A' R.1) → (∀ x, Live R.1 x → (∃ y, Live s y ∧ A' x = A y) ∨ nx ≤ A' x) → K (.tup [aD (eVal R.2.1), dI (-1)]) H' nx'
def formB : Nat → List UInt8
  | 0 => [42]
  | 1 => [108, 42]
  | 2 => [108]
  | 3 => [111]
  | 4 => [42]
  | 5 => [42]
  | 6 => [110]
  | 7 => [102]
  | 8 => [103, 42]
  | 9 => [103]
  | 12 => [119, 114, 42]
  | 13 => [119, 114]
  | 14 => [114, 99]
  | _ => []
def argB (s : GState) (b : UInt8) (v : GVal) : Bool :=
  if (b.toNat : Int) = 108 then namesB s v 2 else if (b.toNat : Int) = 111 then namesB s v 1 else if (b.toNat : Int) = 110 then decide (v.kind = 2) else if (b.toNat : Int) = 102 then decide (v.kind = 3) else if (b.toNat : Int) = 103 then namesB s v 5 else if (b.toNat : Int) = 119 then namesB s v 7 else if (b.toNat : Int) = 114 then decide (v.kind = 5) else if (b.toNat : Int) = 99 then namesB s v 4 else true
noncomputable def textW (s : GState) (v : GVal) : ByteArray :=
  if v.kind = 0 then ⟨#[110, 105, 108]⟩ else if v.kind = 1 then (if v.n = 1 then "true".toUTF8 else "false".toUTF8) else if v.kind = 2 then ⟨(Lib.itoa v.n).toArray⟩ else if v.kind = 3 then ⟨(35 :: hexF 16 (IntKind.u64.wrap v.n).toNat).toArray⟩
  else if v.kind = 4 then s.texts.getD v.n.toNat ByteArray.empty else ⟨#[91]⟩ ++ s.texts.getD (kindW s v).toNat ByteArray.empty ++ ⟨#[93]⟩
def trcW (n : Int) : Option Int := match Ieee.double.read (IntKind.u64.wrap n).toNat with
  | .number s m i => if Flt.inW (Flt.sv s (Flt.whole m i)) = true then some (Flt.sv s (Flt.whole m i)) else none
  | _ => none
noncomputable def callR (s : GState) (c : Nat) (args : List GVal) : GState × GVal × Int := match c with
  | 0 => longW s (valAt args 0)
  | 1 => pushW s (valAt args 0) (valAt args 1)
  | 2 => popW s (valAt args 0)
  | 3 => keysW s (valAt args 0)
  | 4 => internW s (textW s (valAt args 0))
  | 5 => (s, ⟨4, kindW s (valAt args 0)⟩, -1)
  | 6 => (s, ⟨3, IntKind.i64.wrap (FloatKind.f64.nearest (valAt args 0).n)⟩, -1)
  | 7 => match trcW (valAt args 0).n with
    | some n => (s, ⟨2, n⟩, -1)
    | none => (s, nilG, 1)
  | 9 => (s, ⟨1, if (cellAt s (valAt args 0).n).num = 2 then 1 else 0⟩, -1)
  | 10 => makeW s ⟨6, -1, [], []⟩
  | 11 => makeW s ⟨7, 0, [], []⟩
  | 12 => keepW s (valAt args 0) (valAt args 1) (valAt args 2)
  | 13 => keptW s (valAt args 0) (valAt args 1)
  | 14 => atEndW s (valAt args 0) (valAt args 1)
  | _ => (s, nilG, 6)
def argsB (s : GState) (f : List UInt8) (args : List GVal) : Bool := (f.zip args).all fun x => argB s x.1 x.2
noncomputable def callW (s : GState) (call : Int) (args : List GVal) : GState × GVal × Int :=
  if call < 0 ∨ 16 ≤ call then (s, nilG, 0) else if args.length ≠ (formB call.toNat).length then (s, nilG, 7) else if argsB s (formB call.toNat) args = false then (s, nilG, 0) else callR s call.toNat args
noncomputable def callC (s : GState) (call : Int) (args : List GVal) : GState × GVal × Int :=
  if askC s args = true then (if 0 ≤ (callW s call args).2.2 then (emptyS, nilG, (callW s call args).2.2) else callW s call args) else (emptyS, nilG, 6)
theorem cform_ok (c : Nat) (hc : c < 16) {K : D → List Blk → Prop} (h : K (.tup [dS ⟨(formB c).toArray⟩, dB true]) []) : DPure Tryz.prog 70 [dI c] K := by
  refine fn_ok [0,2,3,4,11] [] Tryz.func70 rfl (by kernel_rfl) rfl rfl rfl rfl (by kernel_rfl) ?_
  have : c = 0 ∨ c = 1 ∨ c = 2 ∨ c = 3 ∨ c = 4 ∨ c = 5 ∨ c = 6 ∨ c = 7 ∨ c = 8 ∨ c = 9 ∨ c = 10 ∨ c = 11 ∨ c = 12 ∨ c = 13 ∨ c = 14 ∨ c = 15 := by omega
  rcases this with rfl | rfl | rfl | rfl | rfl | rfl | rfl | rfl | rfl | rfl | rfl | rfl | rfl | rfl | rfl | rfl
  all_goals
    simp
    exact h
theorem cform_no (c : Int) (hc : c < 0 ∨ 16 ≤ c) {K : D → List Blk → Prop} (h : K (.tup [dS ⟨#[]⟩, dB false]) []) : DPure Tryz.prog 70 [dI c] K := by
  refine fn_ok [0,2,3,4,11] [] Tryz.func70 rfl (by kernel_rfl) rfl rfl rfl rfl (by kernel_rfl) ?_
  rcases hc with hc | hc
  · simp [hc]
    exact h
  · have h0 : ¬ c < 0 := by omega
    simp [hc, h0]
    exact h
theorem whole_ok (n : Int) {K : D → List Blk → Prop} (h : K (aD (eVal ⟨2, n⟩)) []) : DPure Tryz.prog 78 [dI n] K := by
  refine fn_ok [0,2] [] Tryz.func78 rfl (by kernel_rfl) rfl rfl rfl rfl (by kernel_rfl) ?_
  simp
  exact h
theorem ctruth_ok (b : Bool) {K : D → List Blk → Prop} (h : K (aD (eVal ⟨1, if b = true then 1 else 0⟩)) []) : DPure Tryz.prog 79 [dB b] K := by
  refine fn_ok [0,2,3] [] Tryz.func79 rfl (by kernel_rfl) rfl rfl rfl rfl (by kernel_rfl) ?_
  cases b
  · simp
    exact h
  · simp
    exact h
theorem heapFits_ok (s : GState) (b : UInt8) (v : GVal) {K : D → List Blk → Prop} (h : K (dB (argB s b v)) []) : DPure Tryz.prog 71 [hpD true s, .one (.d (.lit (.int .u8 b.toNat))), aD (eVal v)] K := by
  refine fn_ok [0,1,2,3,5,6,7,8,14,20,25,30,36,42,47] [] Tryz.func71 rfl (by kernel_rfl) rfl rfl rfl rfl (by kernel_rfl) ?_
  unfold argB at h
  obtain ⟨x, hx⟩ : ∃ x : Int, (b.toNat : Int) = x := ⟨_, rfl⟩
  rw [hx] at h ⊢
  by_cases c1 : x = 108
  · simp [c1] at h ⊢
    refine celIs_ok true s v 2 (by decide) ?_
    simp
    exact h
  by_cases c2 : x = 111
  · simp [c2] at h ⊢
    refine celIs_ok true s v 1 (by decide) ?_
    simp
    exact h
  by_cases c3 : x = 110
  · simp [c3] at h ⊢
    exact h
  by_cases c4 : x = 102
  · simp [c4] at h ⊢
    exact h
  by_cases c5 : x = 103
  · simp [c5] at h ⊢
    refine celIs_ok true s v 5 (by decide) ?_
    simp
    exact h
  by_cases c6 : x = 119
  · simp [c6] at h ⊢
    refine celIs_ok true s v 7 (by decide) ?_
    simp
    exact h
  by_cases c7 : x = 114
  · simp [c7] at h ⊢
    exact h
  by_cases c8 : x = 99
  · simp [c8] at h ⊢
    refine celIs_ok true s v 4 (by decide) ?_
    simp
    exact h
  simp [c1, c2, c3, c4, c5, c6, c7, c8] at h ⊢
  exact h
theorem cells_text {s : GState} {v : GVal} (hv : fitsB s v = true) (hk : v.kind = 4) : 0 ≤ v.n ∧ v.n < s.texts.length := by
  simp only [fitsB, Bool.and_eq_true] at hv
  have h2 := hv.2
  rw [if_pos hk] at h2
  exact ⟨right_pos hv.1 (.inl hk), by simpa using h2⟩
theorem heapLong_ok (s : GState) (v : GVal) (hv : fitsB s v = true) {K : D → List Blk → Prop} (h : K (.tup [aD (eVal (longW s v).2.1), dI (longW s v).2.2]) []) : DPure Tryz.prog 72 [hpD true s, aD (eVal v)] K := by
  obtain ⟨k, n⟩ := v
  refine fn_ok [0,1,2,3,4,5,6,10,25] [(3, [0,1,3,7,15,0,32,127,255,511,1023,2047,4095], (.seg 0 (.seg 1 (.seg 2 (.seg 3 (.seg 4 (.seg 5 (.seg 6 (.seg 7 (.seg 8 (.seg 9 (.eff 10 [] (.eff 11 [] (.seg 12 .last))))))))))))))] Tryz.func72 rfl (by kernel_rfl) rfl rfl rfl rfl (by kernel_rfl) ?_
  simp
  refine heapOf_ok true s ⟨k, n⟩ (fits_ref hv) ?_
  by_cases c4 : k = 4
  · subst c4
    have hr := (cells_text hv rfl)
    simp only at hr
    unfold longW at h
    rw [if_pos rfl] at h
    have hl : n.toNat < s.texts.length := by omega
    have e : s.texts.getD n.toNat ByteArray.empty = s.texts[n.toNat] := by simp [List.getD_eq_getElem?_getD, hl]
    rw [e] at h
    simp [ofD, hr.1, hr.2]
    refine whole_ok _ ?_
    simp
    exact h
  by_cases c5 : k = 5
  · subst c5
    simp only [ofD, if_true]
    unfold longW at h
    rw [if_neg (by simp)] at h
    simp only [true_and] at h
    generalize cellAt s n = c at *
    by_cases d2 : c.kind = 2
    · rw [if_pos (.inl d2)] at h
      simp [d2]
      intro _
      refine whole_ok _ ?_
      simp
      exact h
    by_cases d1 : c.kind = 1
    · rw [if_pos (.inr d1)] at h
      simp [d1]
      intro _
      refine whole_ok _ ?_
      simp
      exact h
    rw [if_neg (fun e => e.elim d2 d1)] at h
    simp [d1, d2]
    exact h
  unfold longW at h
  rw [if_neg c4, if_neg (fun e => c5 e.1)] at h
  simp [ofD, c4, c5]
  exact h
theorem fin_vals {H M : Hp} {lo nx nS n : Nat} {A : Ad → Nat} {s : GState} {l : List GVal} {w : GVal} (hO : OwnS M lo A s) (n1 : ∀ x, Live s x → A x < nx) (hM2 : ∀ i, i < nx → M i = H i) (hnl : n < s.cells.length) (hS : M nS = some (stB A s)) (pS : nS < nx) (hSn : ∀ x, Live s x → A x ≠ nS) (hlo : lo ≤ nx)
    {R : List (List C)} (r1 : M (A .c) = some ⟨.c 75, 4, R⟩) {K : D → Hp → Nat → Prop} (hK : CallK H nx lo nS A s (setV s ⟨5, n⟩ l, w, -1) K)
    (Hf : Hp) (nx' v' : Nat) (hnx : nx ≤ nx') (hv : v' = A (.cv n) ∨ nx ≤ v') (solf : HSol Hf) (lowf : ∀ p, p < nx → p ≠ A .c → p ≠ A (.cv n) → Hf p = M p) (highf : ∀ p, nx' ≤ p → Hf p = none)
    (f2 : Hf (A .c) = some ⟨.c 75, 4, R.set n [.d (eI s.cells[n].kind), .d (eI s.cells[n].num), .own v' 2 l.length, .own (A (.cf n)) 8 s.cells[n].frames.length]⟩) (f4 : ∃ ys, Hf v' = some (valBlk (l ++ ys))) :
    cutK K (.tup [aD (eVal w), dI (-1)]) Hf nx' := by
  have e : setV s ⟨5, n⟩ l = s.setC n ⟨s.cells[n].kind, s.cells[n].num, l, s.cells[n].frames⟩ := by
    unfold setV
    simp only
    rw [at_nat hnl, Int.toNat_natCast]
    rfl
  rw [e] at hK
  have hlow : ∀ x, Live s x → x ≠ .cv n → x ≠ .c → Hf (A x) = M (A x) := fun x hx h1 h2 => lowf _ (n1 x hx) (hO.ne hx (y := .c) trivial h2) (hO.ne hx (y := .cv n) hnl h1)
  have hvA : ∀ x, Live s x → x ≠ .cv n → A x ≠ v' := fun x hx h1 => by
    rcases hv with rfl | h
    · exact hO.ne hx (y := .cv n) hnl h1
    · have := n1 x hx; omega
  have hlv : lo ≤ v' := by
    rcases hv with rfl | h
    · exact hO.lo (.cv n) hnl
    · omega
  have O2 := hO.cVals (H' := Hf) (i := n) (c' := ⟨s.cells[n].kind, s.cells[n].num, l, s.cells[n].frames⟩) hnl rfl v' hlow r1 (by rw [f2]; simp [ceR]) f4 hvA hlv
  refine ⟨Hf, fun _ _ h => h, hK.ok rfl Hf nx' _ hnx (fun p h1 h2 h3 => ?_) highf solf O2 ?_ fun x hx => ?_⟩
  · rw [lowf p h1 (h2 .c trivial) (h2 (.cv n) hnl)]; exact hM2 p h1
  · rw [lowf nS pS (fun e => hSn .c trivial e.symm) (fun e => hSn (.cv n) hnl e.symm), hS]
    simp [stB, oRow_cv]
  · rcases atCv_or (c' := ⟨s.cells[n].kind, s.cells[n].num, l, s.cells[n].frames⟩) (v := v') hnl rfl hx with ⟨-, g⟩ | ⟨-, g1, g⟩ <;> rw [g]
    · rcases hv with h | h
      · exact .inl ⟨.cv n, hnl, h⟩
      · exact .inr h
    · exact .inl ⟨x, g1, rfl⟩
theorem CallK.same {H : Hp} {nx lo nS : Nat} {A : Ad → Nat} {s : GState} {w : GVal} {K : D → Hp → Nat → Prop} (hK : CallK H nx lo nS A s (s, w, -1) K) (hfr : ∀ i, nx ≤ i → H i = none) (hSol : HSol H) (hO : OwnS H lo A s) (hS : H nS = some (stB A s)) (nx' : Nat) (hn : nx ≤ nx') : K (.tup [aD (eVal w), dI (-1)]) H nx' :=
  hK.ok rfl H nx' A hn (fun _ _ _ _ => rfl) (fun p hp => hfr p (by omega)) hSol hO hS fun x hx => .inl ⟨x, hx, rfl⟩
theorem push_ic {H : Hp} {lo nx nS : Nat} {A : Ad → Nat} {s : GState} (hq : cellsQ wordsT s = 0) (S : Bool) (a v : GVal) (ha : namesB s a 2 = true) (hSol : HSol H) (hO : OwnS H lo A s) (hS : H nS = some (stB A s)) (hSn : ∀ x, Live s x → A x ≠ nS) (hlo : lo ≤ nx) {K : D → Hp → Nat → Prop} (hK : CallK H nx lo nS A s (pushW s a v) K) :
    ICall Tryz.prog 82 [hpO nS, dI 1, dL S [eVal a, eVal v]] H nx K := by
  refine ICall.fresh (by kernel_rfl) fun hfr => ICall.cut ?_
  have n1 : ∀ x, Live s x → A x < nx := fun x hx => hO.lt hfr hx
  have pS := fresh_lt hfr hS
  obtain ⟨n, hnl, rfl, hat, hk⟩ := names_cell ha
  refine fni_ok [0,1,2,3,6,7,8,9,10,11,13,14,15,21,22,29,49,57,78,89,90,91,92,107,115,143,156,159,161] [(1, [0,0,2,6,15,31], (.seg 0 (.seg 1 (.seg 2 (.seg 3 (.eff 4 [] (.seg 5 .last))))))), (6, [0,0,2,6,14,0,32,96,224,510,1023,2047,4095], (.seg 0 (.seg 1 (.seg 2 (.seg 3 (.seg 4 (.seg 5 (.seg 6 (.seg 7 (.eff 8 [2, 3, 4] (.eff 9 [] (.seg 10 (.seg 11 (.eff 12 [] .last)))))))))))))), (17, [0,1,3,7,15,0,32,96,224,511,1023,0], (.seg 0 (.seg 1 (.seg 2 (.seg 3 (.seg 4 (.seg 5 (.seg 6 (.seg 7 (.seg 8 (.seg 11 (.eff 9 [] (.seg 10 .last))))))))))))), (26, [0,1,0,4,12,28,60,0,128,384,896,0,2048,6144,16256,32640,65532,131071,262143,524287], (.seg 0 (.seg 2 (.seg 3 (.seg 4 (.seg 5 (.seg 6 (.seg 7 (.seg 8 (.seg 9 (.seg 10 (.seg 11 (.seg 12 (.seg 13 (.seg 14 (.fork 1 [2, 3, 4, 5, 6, 8, 9, 10, 12, 13, 14] (.eff 15 [2, 3, 4, 5, 6] (.eff 16 [] (.seg 17 (.seg 18 (.eff 19 [] .last))))) (.eff 15 [0, 2, 3, 4, 5, 6] (.fork 1 [2, 3, 4, 5, 6] (.eff 16 [] (.seg 17 (.seg 18 (.eff 19 [] .last)))) (.eff 16 [0] (.eff 1 [] (.seg 17 (.seg 18 (.eff 19 [] .last))))))))))))))))))))))), (32, [0,1,3,7,0,31,63,0,128,384,1023], (.seg 0 (.seg 1 (.seg 2 (.seg 3 (.seg 4 (.seg 5 (.seg 6 (.seg 7 (.seg 8 (.seg 9 (.seg 10 .last)))))))))))), (38, [0,0,0,0,8,24,0,64,192,511], (.seg 0 (.seg 1 (.seg 2 (.seg 3 (.seg 4 (.seg 5 (.seg 6 (.seg 7 (.seg 8 (.eff 9 [] .last)))))))))))] Tryz.func82 rfl (by kernel_rfl) rfl rfl rfl rfl (by kernel_rfl) ?_
  simp [Nat.add_assoc]
  have hM1 : OwnS ((H.set nx (some ⟨.c 65, 1, [[.ptr nS 8 0 0]]⟩)).set (nx + 1) (some ⟨.c 31, 2, [[.d (.lit (.int .i64 0)), .d (.lit (.int .i64 0))]]⟩)) lo A s := (hO.set_low _ fun x hx => by have := n1 x hx; omega).set_low _ fun x hx => by have := n1 x hx; omega
  have hM2 : ∀ i, i < nx → ((H.set nx (some ⟨.c 65, 1, [[.ptr nS 8 0 0]]⟩)).set (nx + 1) (some ⟨.c 31, 2, [[.d (.lit (.int .i64 0)), .d (.lit (.int .i64 0))]]⟩)) i = H i := fun i hi => by rw [Hp.set_ne _ _ (by omega), Hp.set_ne _ _ (by omega)]
  have hM3 : HSol ((H.set nx (some ⟨.c 65, 1, [[.ptr nS 8 0 0]]⟩)).set (nx + 1) (some ⟨.c 31, 2, [[.d (.lit (.int .i64 0)), .d (.lit (.int .i64 0))]]⟩)) := HSol.set (HSol.set hSol (by simp)) (by simp)
  have hM4 : ∀ i, nx + 2 ≤ i → ((H.set nx (some ⟨.c 65, 1, [[.ptr nS 8 0 0]]⟩)).set (nx + 1) (some ⟨.c 31, 2, [[.d (.lit (.int .i64 0)), .d (.lit (.int .i64 0))]]⟩)) i = none := fun i hi => by rw [Hp.set_ne _ _ (by omega), Hp.set_ne _ _ (by omega)]; exact hfr i (by omega)
  have hM5 : ((H.set nx (some ⟨.c 65, 1, [[.ptr nS 8 0 0]]⟩)).set (nx + 1) (some ⟨.c 31, 2, [[.d (.lit (.int .i64 0)), .d (.lit (.int .i64 0))]]⟩)) nx = some ⟨.c 65, 1, [[.ptr nS 8 0 0]]⟩ := by simp
  have hM6 : ((H.set nx (some ⟨.c 65, 1, [[.ptr nS 8 0 0]]⟩)).set (nx + 1) (some ⟨.c 31, 2, [[.d (.lit (.int .i64 0)), .d (.lit (.int .i64 0))]]⟩)) (nx + 1) = some ⟨.c 31, 2, [[.d (.lit (.int .i64 0)), .d (.lit (.int .i64 0))]]⟩ := by simp
  generalize ((H.set nx (some ⟨.c 65, 1, [[.ptr nS 8 0 0]]⟩)).set (nx + 1) (some ⟨.c 31, 2, [[.d (.lit (.int .i64 0)), .d (.lit (.int .i64 0))]]⟩)) = M at *
  have hSM : M nS = some (stB A s) := by rw [hM2 nS pS]; exact hS
  have hsub : ∀ i y, H i = some y → M i = some y := fun i y hy => by rw [hM2 i (fresh_lt hfr hy)]; exact hy
  have hr : RefOk s ⟨5, n⟩ := fun _ => ⟨Int.natCast_nonneg n, by simpa using hnl⟩
  refine heapOfO_ic hM3 hM1 hSM ⟨5, n⟩ hr (fun _ nx1 hn1 => ?_) (fun h => absurd rfl h)
  rw [show (⟨5, (n : Int)⟩ : GVal).n.toNat = n from Int.toNat_natCast n]
  obtain ⟨R, r1, r2, r3⟩ := hM1.ce
  obtain ⟨r4, r5⟩ := List.getElem?_eq_some_iff.1 (r3 n hnl)
  rw [oCe, ceR] at r5
  have m1 := n1 .c trivial
  have m2 := n1 (.cv n) hnl
  have hc1 := hSn .c trivial
  have hc2 := hSn (.cv n) hnl
  have eB : ∀ c', stB A (s.setC n c') = stB A s := fun c' => by simp [stB, oRow, GState.setC]
  have hSM' := hSM
  rw [stB, oRow] at hSM'
  have hvl := (cell_vals hq hnl).2.2
  have b1 : ¬ A .c = nx1 := by omega
  have b2 : ¬ A .c = nx1 + 1 := by omega
  have b3 : ¬ A .c = nx + 1 := by omega
  have b4 : ¬ A (.cv n) = nx1 := by omega
  have b5 : ¬ A (.cv n) = nx1 + 1 := by omega
  have b6 : ¬ A (.cv n) = nx + 1 := by omega
  have b7 : ¬ nx + 1 = nx1 := by omega
  have b8 : ¬ nx + 1 = nx1 + 1 := by omega
  have b9 : ¬ nx + 1 = A .c := by omega
  have b10 : ¬ nx + 1 = A (.cv n) := by omega
  have b11 : ¬ A .c = A (.cv n) := hM1.ne (x := .c) (y := .cv n) trivial hnl (by simp)
  have b12 : ¬ A (.cv n) = A .c := fun e => b11 e.symm
  have b13 : ¬ nx1 + 1 = A .c := by omega
  have b14 : ¬ nx1 + 1 = nx + 1 := by omega
  have b15 : ¬ nx1 = A .c := by omega
  have b16 : ¬ nx1 = nx + 1 := by omega
  have b17 : ¬ nS = nx1 := by omega
  have b18 : ¬ nS = nx1 + 1 := by omega
  have b19 : ¬ nS = nx + 1 := by omega
  have b20 : ¬ nS = A .c := fun e => hc1 e.symm
  have b21 : ¬ nS = A (.cv n) := fun e => hc2 e.symm
  have b22 : ¬ nx = nx1 := by omega
  have b23 : ¬ nx = A .c := by omega
  have b24 : ¬ nx = nx + 1 := by omega
  obtain ⟨ys, y1⟩ := hM1.cv n hnl
  rw [valBlk] at y1
  unfold pushW at hK
  rw [hat] at hK
  by_cases c1 : 100 ≤ s.cells[n].vals.length
  · rw [if_pos c1] at hK
    have c1' : (100 : Int) ≤ (s.cells[n].vals.length : Int) := by omega
    simp [r1, r4, r5, c1, c1', hM6]
    intro _
    exact ⟨HSol.set hM3 (by simp), H, fun i y hy => by rw [Hp.set_ne _ _ (by have := fresh_lt hfr hy; omega)]; exact hsub i y hy, hK.bad (by simp) _ (by omega)⟩
  rw [if_neg c1] at hK
  have c1' : ¬ (100 : Int) ≤ (s.cells[n].vals.length : Int) := by omega
  simp [r1, r4, r5, c1, c1', hM6, y1, b1, b2, b3, b4, b5, b6, b7, b8, b9, b10, b11, b12, b13, b14, b15, b16]
  refine fun _ => ⟨fun m b hm hb => ?_, .inl (by omega), fun _ => ?_⟩
  · subst hm
    rw [if_neg b4, y1] at hb
    simp only [Option.some.injEq] at hb
    subst hb
    exact ⟨rfl, rfl⟩
  refine whole_ok _ ?_
  simp [hM6, b7, b8, b9, b10, b13, b14, b3, b22, b23, b24]
  refine and_ofP ?_ fun hs => fin_vals hM1 n1 hM2 hnl hSM pS hSn hlo r1 hK _ (nx1 + 2) (nx1 + 1) (by omega) (.inr (by omega)) hs (fun p h1 h2 h3 => ?_) (fun p h1 => ?_) ?_ ⟨[], ?_⟩
  · refine HSol.set (HSol.set (HSol.set (hsolN (HSol.set hM3 (by simp))) ?_) (newRs.set r2 (by simp)).sol) (by simp)
    intro e he c hc
    rcases List.mem_append.1 he with he | he
    · obtain ⟨u, -, rfl⟩ := List.mem_map.1 he
      simp at hc; rcases hc with rfl | rfl <;> rfl
    · rw [List.mem_singleton] at he; subst he; simp at hc; rcases hc with rfl | rfl <;> rfl
  · repeat rw [Hp.set_ne _ _ (by first | assumption | omega)]
  · repeat rw [Hp.set_ne _ _ (by first | assumption | omega)]
    exact hM4 p (by omega)
  · repeat (first | rw [Hp.set_same] | rw [Hp.set_ne _ _ (by first | assumption | omega)])
    simp
  · repeat (first | rw [Hp.set_same] | rw [Hp.set_ne _ _ (by first | assumption | omega)])
    simp [valBlk]
theorem pop_ic {H : Hp} {lo nx nS : Nat} {A : Ad → Nat} {s : GState} (hq : cellsQ wordsT s = 0) (S : Bool) (a : GVal) (ha : namesB s a 2 = true) (hSol : HSol H) (hO : OwnS H lo A s) (hS : H nS = some (stB A s)) (hSn : ∀ x, Live s x → A x ≠ nS) (hlo : lo ≤ nx) {K : D → Hp → Nat → Prop} (hK : CallK H nx lo nS A s (popW s a) K) :
    ICall Tryz.prog 82 [hpO nS, dI 2, dL S [eVal a]] H nx K := by
  refine ICall.fresh (by kernel_rfl) fun hfr => ICall.cut ?_
  have n1 : ∀ x, Live s x → A x < nx := fun x hx => hO.lt hfr hx
  have pS := fresh_lt hfr hS
  obtain ⟨n, hnl, rfl, hat, hk⟩ := names_cell ha
  refine fni_ok [0,1,2,3,6,7,8,9,10,11,13,14,15,21,22,29,49,57,78,89,90,91,92,107,115,143,156,159,161] [(1, [0,0,2,6,15,31], (.seg 0 (.seg 1 (.seg 2 (.seg 3 (.eff 4 [] (.seg 5 .last))))))), (6, [0,0,2,6,14,0,32,96,224,510,1023,2047,4095], (.seg 0 (.seg 1 (.seg 2 (.seg 3 (.seg 4 (.seg 5 (.seg 6 (.seg 7 (.eff 8 [2, 3, 4] (.eff 9 [] (.seg 10 (.seg 11 (.eff 12 [] .last)))))))))))))), (17, [0,1,3,7,15,0,32,96,224,511,1023,0], (.seg 0 (.seg 1 (.seg 2 (.seg 3 (.seg 4 (.seg 5 (.seg 6 (.seg 7 (.seg 8 (.seg 11 (.eff 9 [] (.seg 10 .last))))))))))))), (26, [0,1,0,4,12,28,60,0,128,384,896,0,2048,6144,16256,32640,65532,131071,262143,524287], (.seg 0 (.seg 2 (.seg 3 (.seg 4 (.seg 5 (.seg 6 (.seg 7 (.seg 8 (.seg 9 (.seg 10 (.seg 11 (.seg 12 (.seg 13 (.seg 14 (.fork 1 [2, 3, 4, 5, 6, 8, 9, 10, 12, 13, 14] (.eff 15 [2, 3, 4, 5, 6] (.eff 16 [] (.seg 17 (.seg 18 (.eff 19 [] .last))))) (.eff 15 [0, 2, 3, 4, 5, 6] (.fork 1 [2, 3, 4, 5, 6] (.eff 16 [] (.seg 17 (.seg 18 (.eff 19 [] .last)))) (.eff 16 [0] (.eff 1 [] (.seg 17 (.seg 18 (.eff 19 [] .last))))))))))))))))))))))), (32, [0,1,3,7,0,31,63,0,128,384,1023], (.seg 0 (.seg 1 (.seg 2 (.seg 3 (.seg 4 (.seg 5 (.seg 6 (.seg 7 (.seg 8 (.seg 9 (.seg 10 .last)))))))))))), (38, [0,0,0,0,8,24,0,64,192,511], (.seg 0 (.seg 1 (.seg 2 (.seg 3 (.seg 4 (.seg 5 (.seg 6 (.seg 7 (.seg 8 (.eff 9 [] .last)))))))))))] Tryz.func82 rfl (by kernel_rfl) rfl rfl rfl rfl (by kernel_rfl) ?_
  simp [Nat.add_assoc]
  have hM1 : OwnS ((H.set nx (some ⟨.c 65, 1, [[.ptr nS 8 0 0]]⟩)).set (nx + 1) (some ⟨.c 31, 2, [[.d (.lit (.int .i64 0)), .d (.lit (.int .i64 0))]]⟩)) lo A s := (hO.set_low _ fun x hx => by have := n1 x hx; omega).set_low _ fun x hx => by have := n1 x hx; omega
  have hM2 : ∀ i, i < nx → ((H.set nx (some ⟨.c 65, 1, [[.ptr nS 8 0 0]]⟩)).set (nx + 1) (some ⟨.c 31, 2, [[.d (.lit (.int .i64 0)), .d (.lit (.int .i64 0))]]⟩)) i = H i := fun i hi => by rw [Hp.set_ne _ _ (by omega), Hp.set_ne _ _ (by omega)]
  have hM3 : HSol ((H.set nx (some ⟨.c 65, 1, [[.ptr nS 8 0 0]]⟩)).set (nx + 1) (some ⟨.c 31, 2, [[.d (.lit (.int .i64 0)), .d (.lit (.int .i64 0))]]⟩)) := HSol.set (HSol.set hSol (by simp)) (by simp)
  have hM4 : ∀ i, nx + 2 ≤ i → ((H.set nx (some ⟨.c 65, 1, [[.ptr nS 8 0 0]]⟩)).set (nx + 1) (some ⟨.c 31, 2, [[.d (.lit (.int .i64 0)), .d (.lit (.int .i64 0))]]⟩)) i = none := fun i hi => by rw [Hp.set_ne _ _ (by omega), Hp.set_ne _ _ (by omega)]; exact hfr i (by omega)
  have hM5 : ((H.set nx (some ⟨.c 65, 1, [[.ptr nS 8 0 0]]⟩)).set (nx + 1) (some ⟨.c 31, 2, [[.d (.lit (.int .i64 0)), .d (.lit (.int .i64 0))]]⟩)) nx = some ⟨.c 65, 1, [[.ptr nS 8 0 0]]⟩ := by simp
  have hM6 : ((H.set nx (some ⟨.c 65, 1, [[.ptr nS 8 0 0]]⟩)).set (nx + 1) (some ⟨.c 31, 2, [[.d (.lit (.int .i64 0)), .d (.lit (.int .i64 0))]]⟩)) (nx + 1) = some ⟨.c 31, 2, [[.d (.lit (.int .i64 0)), .d (.lit (.int .i64 0))]]⟩ := by simp
  generalize ((H.set nx (some ⟨.c 65, 1, [[.ptr nS 8 0 0]]⟩)).set (nx + 1) (some ⟨.c 31, 2, [[.d (.lit (.int .i64 0)), .d (.lit (.int .i64 0))]]⟩)) = M at *
  have hSM : M nS = some (stB A s) := by rw [hM2 nS pS]; exact hS
  have hsub : ∀ i y, H i = some y → M i = some y := fun i y hy => by rw [hM2 i (fresh_lt hfr hy)]; exact hy
  have hr : RefOk s ⟨5, n⟩ := fun _ => ⟨Int.natCast_nonneg n, by simpa using hnl⟩
  refine heapOfO_ic hM3 hM1 hSM ⟨5, n⟩ hr (fun _ nx1 hn1 => ?_) (fun h => absurd rfl h)
  rw [show (⟨5, (n : Int)⟩ : GVal).n.toNat = n from Int.toNat_natCast n]
  obtain ⟨R, r1, r2, r3⟩ := hM1.ce
  obtain ⟨r4, r5⟩ := List.getElem?_eq_some_iff.1 (r3 n hnl)
  rw [oCe, ceR] at r5
  have m1 := n1 .c trivial
  have m2 := n1 (.cv n) hnl
  have hc1 := hSn .c trivial
  have hc2 := hSn (.cv n) hnl
  have eB : ∀ c', stB A (s.setC n c') = stB A s := fun c' => by simp [stB, oRow, GState.setC]
  have hSM' := hSM
  rw [stB, oRow] at hSM'
  have hvl := (cell_vals hq hnl).2.2
  have b1 : ¬ A .c = nx1 := by omega
  have b2 : ¬ A .c = nx1 + 1 := by omega
  have b3 : ¬ A .c = nx + 1 := by omega
  have b4 : ¬ A (.cv n) = nx1 := by omega
  have b5 : ¬ A (.cv n) = nx1 + 1 := by omega
  have b6 : ¬ A (.cv n) = nx + 1 := by omega
  have b7 : ¬ nx + 1 = nx1 := by omega
  have b8 : ¬ nx + 1 = nx1 + 1 := by omega
  have b9 : ¬ nx + 1 = A .c := by omega
  have b10 : ¬ nx + 1 = A (.cv n) := by omega
  have b11 : ¬ A .c = A (.cv n) := hM1.ne (x := .c) (y := .cv n) trivial hnl (by simp)
  have b12 : ¬ A (.cv n) = A .c := fun e => b11 e.symm
  have b13 : ¬ nx1 + 1 = A .c := by omega
  have b14 : ¬ nx1 + 1 = nx + 1 := by omega
  have b15 : ¬ nx1 = A .c := by omega
  have b16 : ¬ nx1 = nx + 1 := by omega
  have b17 : ¬ nS = nx1 := by omega
  have b18 : ¬ nS = nx1 + 1 := by omega
  have b19 : ¬ nS = nx + 1 := by omega
  have b20 : ¬ nS = A .c := fun e => hc1 e.symm
  have b21 : ¬ nS = A (.cv n) := fun e => hc2 e.symm
  have b22 : ¬ nx = nx1 := by omega
  have b23 : ¬ nx = A .c := by omega
  have b24 : ¬ nx = nx + 1 := by omega
  obtain ⟨ys, y1⟩ := hM1.cv n hnl
  rw [valBlk] at y1
  unfold popW at hK
  rw [hat] at hK
  by_cases c1 : s.cells[n].vals.length = 0
  · rw [if_pos c1] at hK
    simp [r1, r4, r5, c1, hM6]
    exact ⟨HSol.set hM3 (by simp), H, fun i y hy => by rw [Hp.set_ne _ _ (by have := fresh_lt hfr hy; omega)]; exact hsub i y hy, hK.same hfr hSol hO hS _ (by omega)⟩
  rw [if_neg c1] at hK
  obtain ⟨k, hk1⟩ : ∃ k, s.cells[n].vals.length = k + 1 := ⟨s.cells[n].vals.length - 1, by omega⟩
  rw [hk1] at hK
  have y2 := vrowG (l := s.cells[n].vals) (ys := ys) (q := k) (by omega)
  generalize hL : ((s.cells[n].vals ++ ys).map fun v => (eVal v).map C.d) = L at *
  obtain ⟨y4, y5⟩ := List.getElem?_eq_some_iff.1 y2
  have hkw : IntKind.i64.wrap (k : Int) = k := wrap_id (by omega) (by omega)
  have hk0 : ¬ (k : Int) + 1 = 0 := by omega
  have hk2 : (k : Int) ≤ (k : Int) + 1 := by omega
  have hk3 : (k : Int) < (k : Int) + 1 := by omega
  simp [r1, r4, r5, hk1, hM6, y1, y4, y5, hkw, hk0, hk2, hk3, b1, b2, b3, b4, b5, b6, b7, b8, b9, b10, b11, b12, b13, b14, b15, b16, b22, b23, b24]
  intro _
  have hkl : k < s.cells[n].vals.length := by omega
  have ew : valAt s.cells[n].vals k = s.cells[n].vals[k] := by simp [valAt, List.getD_eq_getElem?_getD, hkl]
  have el : (s.cells[n].vals.take k).length = k := by rw [List.length_take]; omega
  rw [Nat.add_sub_cancel, ew] at hK
  refine and_ofP ?_ fun hs => fin_vals hM1 n1 hM2 hnl hSM pS hSn hlo r1 hK _ (nx1 + 1) (A (.cv n)) (by omega) (.inl rfl) hs (fun p h1 h2 h3 => ?_) (fun p h1 => ?_) ?_ ⟨s.cells[n].vals.drop k ++ ys, ?_⟩
  · refine HSol.set (HSol.set (HSol.set hM3 (by simp)) (newRs.set r2 (by simp)).sol) (by simp)
  · repeat rw [Hp.set_ne _ _ (by first | assumption | omega)]
  · repeat rw [Hp.set_ne _ _ (by first | assumption | omega)]
    exact hM4 p (by omega)
  · repeat (first | rw [Hp.set_same] | rw [Hp.set_ne _ _ (by first | assumption | omega)])
    simp [Nat.min_eq_left (Nat.le_of_lt hkl)]
  · repeat (first | rw [Hp.set_same] | rw [Hp.set_ne _ _ (by first | assumption | omega)])
    rw [← List.append_assoc, List.take_append_drop, valBlk, hL, y1]
section
variable {s : GState}
theorem callW_at {c : Nat} {args : List GVal} (hc : c < 16) (h1 : args.length = (formB c).length) (h2 : argsB s (formB c) args = true) : callW s c args = callR s c args := by
  unfold callW
  rw [if_neg (by omega), Int.toNat_natCast, if_neg (by omega), if_neg (by rw [h2]; decide)]
theorem argB_l {a : GVal} : argB s 108 a = namesB s a 2 := rfl
theorem argB_o {a : GVal} : argB s 111 a = namesB s a 1 := rfl
theorem argB_w {a : GVal} : argB s 119 a = namesB s a 7 := rfl
theorem argB_r {a : GVal} : argB s 114 a = decide (a.kind = 5) := rfl
end
end Go.Proofs.YtbphdcffpobcbaaGreatDoor
