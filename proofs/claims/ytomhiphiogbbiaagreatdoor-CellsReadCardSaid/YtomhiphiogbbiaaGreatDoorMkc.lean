/- Several texts in one. -/
import Derived.Test.YtomhiphiogbbiaaGreatDoorMf
import Derived.Test.YtomhiphiogbbiaaGreatDoorMg
import Derived.Test.YtomhiphiogbbiaaGreatDoorMo
import Derived.Test.YtomhiphiogbbiaaGreatDoorMs
import Derived.Test.YtomhiphiogbbiaaGreatDoorMka
set_option linter.unusedSimpArgs false
set_option linter.unusedVariables false
set_option maxRecDepth 100000
set_option maxHeartbeats 16000000
namespace Go.Proofs.YtomhiphiogbbiaaGreatDoor
open Go.RowKit Go
attribute [simp] nilOf
abbrev hpD (S : Bool) (s : GState) : D := .agg [.d (.at_ S (eState s))]
def kindW (s : GState) (v : GVal) : Int :=
  if v.kind = 5 then (if (cellAt s v.n).kind = 1 then 13 else if (cellAt s v.n).kind = 2 then 14 else if (cellAt s v.n).kind = 4 then 15 else if (cellAt s v.n).kind = 5 then 16 else if (cellAt s v.n).kind = 6 then 17 else if (cellAt s v.n).kind = 7 then 18 else 8)
  else if v.kind = 6 then 15 else 8 + v.kind
def RefOk (s : GState) (v : GVal) : Prop := v.kind = 5 → 0 ≤ v.n ∧ v.n < s.cells.length
theorem fits_ref {s : GState} {v : GVal} (h : fitsB s v = true) : RefOk s v := fun e5 => by
  simp only [fitsB, Bool.and_eq_true] at h
  have hp := right_nonneg h.1 e5
  have h2 := h.2
  rw [if_neg (by omega), if_pos e5] at h2
  simp only [Bool.and_eq_true, decide_eq_true_eq] at h2
  exact ⟨hp, h2.1⟩
def ofD (s : GState) (v : GVal) : D := if v.kind = 5 then .one (.d (.at_ true (eCell (cellAt s v.n)))) else .one (.d (.lit (.pointer none)))
theorem heapOf_ok (S : Bool) (s : GState) (v : GVal) (hv : RefOk s v) {K : D → List Blk → Prop} (h : K (ofD s v) []) : DPure Tryz.prog 124 [hpD S s, aD (eVal v)] K := by
  obtain ⟨k, n⟩ := v
  refine fn_ok [0,1,2,3,4,7] [(3, [0,1,3,7,15,0,32,127,255], (.seg 0 (.seg 1 (.seg 2 (.seg 3 (.seg 4 (.seg 5 (.seg 6 (.seg 7 (.seg 8 .last))))))))))] Tryz.func124 rfl (by kernel_rfl) rfl rfl rfl rfl (by kernel_rfl) ?_
  simp
  by_cases e5 : k = 5
  · subst e5
    obtain ⟨hp, hl⟩ := hv rfl
    simp only [ofD, if_true, cellAt_eq hp hl] at h
    simp [hl, hp, cell_get hp hl]
    exact h
  · simp only [ofD, if_neg e5] at h
    simp [e5]
    exact h
theorem heapKind_ok (S : Bool) (s : GState) (v : GVal) (hv : RefOk s v) (hk : -1000000 ≤ v.kind ∧ v.kind ≤ 1000000) {K : D → List Blk → Prop} (h : K (dI (kindW s v)) []) : DPure Tryz.prog 65 [hpD S s, aD (eVal v)] K := by
  obtain ⟨k, n⟩ := v
  refine fn_ok [0,1,2,3,4,5,7,8,16,17,19,21,23,25,27,29] [] Tryz.func65 rfl (by kernel_rfl) rfl rfl rfl rfl (by kernel_rfl) ?_
  simp
  by_cases e5 : k = 5
  · subst e5
    simp
    refine heapOf_ok S s ⟨5, n⟩ hv ?_
    simp only [kindW, if_true] at h
    simp only [ofD, if_true]
    generalize cellAt s n = c at *
    simp
    by_cases c1 : c.kind = 1
    · simp [c1] at h ⊢; exact h
    by_cases c2 : c.kind = 2
    · simp [c2] at h ⊢; exact h
    by_cases c4 : c.kind = 4
    · simp [c4] at h ⊢; exact h
    by_cases c5 : c.kind = 5
    · simp [c5] at h ⊢; exact h
    by_cases c6 : c.kind = 6
    · simp [c6] at h ⊢; exact h
    by_cases c7 : c.kind = 7
    · simp [c7] at h ⊢; exact h
    simp [c1, c2, c4, c5, c6, c7] at h ⊢; exact h
  by_cases e6 : k = 6
  · subst e6
    simp [kindW] at h ⊢
    exact h
  · simp only at hk
    simp [kindW, e5, e6, wrap_id (show (-9223372036854775808 : Int) ≤ 8 + k by omega) (show 8 + k ≤ 9223372036854775807 by omega)] at h ⊢
    exact h
theorem shapeSlot_ok (S : Bool) (L : List Shp) (hin : ∀ x ∈ L, InS x) (a n : Int) {K : D → List Blk → Prop} (h : K (.tup [dI (if 0 ≤ idxQ (namesQ L a) n then idxQ (namesQ L a) n else 0), dB (decide (0 ≤ idxQ (namesQ L a) n))]) []) : DPure Tryz.prog 188 [dL S (L.map eShape), dI a, dI n] K := by
  refine fn_ok [0,1,2,6,7,8,15] [] Tryz.func188 rfl (by kernel_rfl) rfl rfl rfl rfl (by kernel_rfl) ?_
  simp
  refine shapeNames1_ok S L hin a ?_
  simp
  refine indexI_ok false (namesQ L a) n ?_
  by_cases c1 : 0 ≤ idxQ (namesQ L a) n
  · have c2 : ¬ idxQ (namesQ L a) n < 0 := by omega
    simp only [c1, if_true, decide_true] at h
    simp [c2]
    exact h
  · have c2 : idxQ (namesQ L a) n < 0 := by omega
    simp only [c1, if_false, decide_false] at h
    simp [c2]
    exact h
theorem heapSlot_ok (S : Bool) (s : GState) (hin : ∀ x ∈ s.shapes, InS x) (of which : GVal) (hv : RefOk s of) (hl : of.kind = 5 → (cellAt s of.n).vals.length ≤ 1000) {K : D → List Blk → Prop} (h : K (.tup [dI (slotW s of which).1, dI (slotW s of which).2]) []) : DPure Tryz.prog 128 [hpD S s, aD (eVal of), aD (eVal which)] K := by
  obtain ⟨k, n⟩ := of
  obtain ⟨a, m⟩ := which
  refine fn_ok [0,1,2,3,4,5,6,7,8,9,10,14,44,46,69] [(3, [0,1,3,7,15,0,32,96,224,0,512,2047,4095,8191,8191,16383,65535], (.seg 0 (.seg 1 (.seg 2 (.seg 3 (.seg 4 (.seg 5 (.seg 6 (.seg 7 (.seg 8 (.seg 9 (.seg 10 (.eff 11 [] (.seg 12 (.seg 13 (.seg 14 (.seg 15 (.seg 16 .last)))))))))))))))))), (8, [0,1,0,4,12,28,60,124,255], (.seg 0 (.seg 1 (.seg 2 (.seg 3 (.seg 4 (.seg 5 (.seg 6 (.seg 7 (.eff 8 [] .last))))))))))] Tryz.func128 rfl (by kernel_rfl) rfl rfl rfl rfl (by kernel_rfl) ?_
  simp
  refine heapOf_ok S s ⟨k, n⟩ hv ?_
  by_cases e5 : k = 5
  case neg =>
    simp [slotW, e5] at h
    simp [ofD, e5]
    exact h
  subst e5
  simp only [slotW, true_and] at h
  simp only at hl
  have hl := hl trivial
  simp only [ofD, if_true]
  generalize cellAt s n = c at *
  simp
  by_cases c1 : c.kind = 1
  · by_cases a4 : a = 4
    · subst a4
      simp [c1] at h ⊢
      refine shapeSlot_ok true s.shapes hin c.num m ?_
      by_cases c3 : 0 ≤ idxQ (namesQ s.shapes c.num) m
      · simp [c3] at h ⊢
        exact h
      · rw [idxQ_neg c3] at h
        simp [c3] at h ⊢
        exact h
    · simp [c1, a4] at h ⊢
      exact h
  by_cases c2 : c.kind = 2
  · by_cases a2 : a = 2
    · subst a2
      simp [c2] at h ⊢
      intro _
      refine cwithin_ok m 0 _ ?_
      have hw : IntKind.i64.wrap ((c.vals.length : Int) - 1) = (c.vals.length : Int) - 1 := wrap_id (by omega) (by omega)
      by_cases c3 : 0 ≤ m ∧ m < c.vals.length
      · have hb : btw m 0 ((c.vals.length : Int) - 1) = true := by simp [btw]; omega
        simp [hw, hb, c3] at h ⊢
        exact h
      · have hb : btw m 0 ((c.vals.length : Int) - 1) = false := by
          rw [← Bool.not_eq_true]
          intro e
          simp [btw] at e
          omega
        rw [if_neg c3] at h
        simp [hw, hb] at h ⊢
        exact h
    · simp [c1, c2, a2] at h ⊢
      exact h
  simp [c1, c2] at h ⊢
  exact h
theorem ICall.lendL {P : Program} {f : FuncId} {ds es : List D} {H : Hp} {nx : Nat} {K : D → Hp → Nat → Prop} (hd : DsShw H (fun _ => True) ds es) (h : DPure P f es fun d _ => d.litD ∧ K d H nx) : ICall P f ds H nx K :=
  ⟨h.1, fun β F ι w vs hg hH hvs => by
    have hF1 : ∀ b, giv F ι H (fun _ => True) b → b < w.heap.size := fun b hb => by
      rcases hb with hb | ⟨n, cap, -, g1, g2, g3⟩
      · exact hH.Flt b hb
      · exact (hH.own n b cap g1 g2 g3).1
    have hgl : GlOk (giv F ι H (fun _ => True)) w := fun g arr hm => by
      obtain ⟨a1, a2⟩ := hH.gl hg g arr hm
      exact ⟨.inl a1, a2⟩
    refine (h.2 (giv F ι H (fun _ => True)) w vs hF1 hgl (RVs.wide (DsShw.rvs (ι' := fun _ => none) hH.blk hd hvs))).mono fun _ w' ⟨F', ι', d, fr, v, e1, ho, e2, e3⟩ => ?_
    have ho2 : Out F w w' F (fun _ => none) .top [] v := ⟨ho.size, ho.old, fun b hb => hb, fun b hb => ⟨.inl hb, Nat.lt_of_lt_of_le (hH.Flt b hb) ho.size⟩, fun i x hx => by simp at hx, fun i b cap hi => by simp at hi, fun i j b c c' hi => by simp at hi, fun _ _ => rfl, by rw [RV]; trivial, ho.io⟩
    have hh : Holds β F ι ⟨0, [], H, nx⟩ ⟨#[], []⟩ w := ⟨hg, rfl, rfl, fun t => by rw [show lk [] t = D.top from rfl, RV]; trivial, hH⟩
    obtain ⟨ι2, g1, g2, g3⟩ := hh.out ho2
    have hle : Env.le ⟨F, β.B⟩ ⟨F, β.B⟩ w w' := ⟨fun _ h => h, fun _ h => h, fun b hb => ho.old b (hH.Flt b hb), fun b hb => ho.old b (Nat.lt_of_lt_of_le hb.1 hH.size)⟩
    have g4 : HpOk β F w' ι2 H nx := by simpa [St.adds, addsH] using g1.heap
    exact ⟨F, ι2, H, nx, d, v, e1, g4, hle, g3, ho.val.litD e2, e3⟩⟩
def CsW (nx : Nat) : List C → List C → Prop
  | [], [] => True
  | c :: cs, e :: es => (c = e ∨ (c = .d .emp ∧ ∃ z, e = .own nx z 0)) ∧ CsW nx cs es
  | _, _ => False
def DW (nx : Nat) : D → D → Prop
  | .agg cs, .agg es => CsW nx cs es
  | d, e => d = e
def DsW (nx : Nat) : List D → List D → Prop
  | [], [] => True
  | d :: ds, e :: es => DW nx d e ∧ DsW nx ds es
  | _, _ => False
section
variable {E : Env} {w : World} {ι : Nms} {nx : Nat}
theorem CsW.rcs (hx : ι nx = some (0, 0)) : ∀ {cs es : List C} {vs : List Value}, CsW nx cs es → RCs E w ι cs vs → RCs E w ι es vs
  | [], [], _, _, h => h
  | _ :: _, _ :: _, [], _, h => h.elim
  | c :: _, e :: _, v :: _, hc, h => ⟨by
    rcases hc.1 with e1 | ⟨e1, z, e2⟩
    · rw [← e1]; exact h.1
    · rw [e2]
      have h1 := h.1
      rw [e1] at h1
      have h2 : RD E w .emp v := h1
      cases h2
      exact ⟨0, 0, hx, Nat.le_refl _, by simp [maxLen], .inl ⟨rfl, _, rfl⟩⟩, CsW.rcs hx hc.2 h.2⟩
  | [], _ :: _, _, hc, _ => hc.elim
  | _ :: _, [], _, hc, _ => hc.elim
theorem DW.rv (hx : ι nx = some (0, 0)) {d e : D} {v : Value} (hd : DW nx d e) (h : RV E w ι d v) : RV E w ι e v := by
  unfold DW at hd
  split at hd
  · rw [RV] at h ⊢
    obtain ⟨xs, h1, h2⟩ := h
    exact ⟨xs, h1, hd.rcs hx h2⟩
  · subst hd; exact h
theorem DsW.rvs (hx : ι nx = some (0, 0)) : ∀ {ds es : List D} {vs : List Value}, DsW nx ds es → RVs E w ι ds vs → RVs E w ι es vs
  | [], [], _, _, h => h
  | _ :: _, _ :: _, [], _, h => by simp [RVs] at h
  | _ :: _, _ :: _, _ :: _, hd, h => by rw [RVs] at h ⊢; exact ⟨hd.1.rv hx h.1, DsW.rvs hx hd.2 h.2⟩
  | [], _ :: _, _, hd, _ => hd.elim
  | _ :: _, [], _, hd, _ => hd.elim
end
theorem vrowS {l ys : List GVal} {q : Nat} (h : q < l.length) (v : GVal) : ((l ++ ys).map fun v => (eVal v).map C.d).set q [.d (eI v.kind), .d (eI v.n)] = (l.set q v ++ ys).map fun v => (eVal v).map C.d := by
  rw [← List.set_append_left _ _ h, List.map_set]; rfl
theorem vrowG {l ys : List GVal} {q : Nat} (h : q < l.length) : ((l ++ ys).map fun v => (eVal v).map C.d)[q]? = some [.d (eI l[q].kind), .d (eI l[q].n)] := by
  rw [List.getElem?_map, List.getElem?_append_left h, List.getElem?_eq_getElem h]; rfl
def GState.withSh (s : GState) (l : List Shp) : GState := ⟨s.cells, l, s.texts, s.threads, s.ends, s.said, s.asked, s.steps⟩
def atSh (A : Ad → Nat) (n : Nat) : Ad → Nat
  | .sh => n
  | x => A x
theorem atSh_ne {A : Ad → Nat} {n : Nat} {x : Ad} (h : x ≠ .sh) : atSh A n x = A x := by cases x <;> first | rfl | exact absurd rfl h
section
variable {H H' : Hp} {lo : Nat} {A A' : Ad → Nat} {s s' : GState}
theorem OwnS.top (h : OwnS H lo A s) (hc : s'.cells = s.cells) (ht : s'.threads = s.threads) (hA : ∀ x, Live s x → x ≠ .sh → x ≠ .tx → x ≠ .en → x ≠ .sa → A' x = A x ∧ H' (A x) = H (A x))
    (h1 : ∃ ys, H' (A' .sh) = some (shpBlk (s'.shapes ++ ys))) (h2 : ∃ ys, H' (A' .tx) = some (txtBlk (s'.texts ++ ys))) (h3 : ∃ ys, H' (A' .en) = some (endBlk (s'.ends ++ ys))) (h4 : ∃ ys, H' (A' .sa) = some (valBlk (s'.said ++ ys)))
    (hinj : ∀ x y, Live s x → Live s y → A' x = A' y → x = y) (hlo : ∀ x, Live s x → lo ≤ A' x) : OwnS H' lo A' s' := by
  obtain ⟨c, sh, tx, t, en, sa, a, st⟩ := s
  obtain ⟨c', sh', tx', t', en', sa', a', st'⟩ := s'
  simp only at hc ht
  subst hc ht
  have hl : ∀ x, Live ⟨c', sh', tx', t', en', sa', a', st'⟩ x ↔ Live ⟨c', sh, tx, t', en, sa, a, st⟩ x := fun x => by cases x <;> exact Iff.rfl
  have k1 : ∀ x, Live ⟨c', sh, tx, t', en, sa, a, st⟩ x → (x ≠ .sh ∧ x ≠ .tx ∧ x ≠ .en ∧ x ≠ .sa) → A' x = A x ∧ H' (A x) = H (A x) := fun x hx e => hA x hx e.1 e.2.1 e.2.2.1 e.2.2.2
  have k2 : ∀ x, Live ⟨c', sh, tx, t', en, sa, a, st⟩ x → (x ≠ .sh ∧ x ≠ .tx ∧ x ≠ .en ∧ x ≠ .sa) → H' (A' x) = H (A x) := fun x hx e => by rw [(k1 x hx e).1]; exact (k1 x hx e).2
  have oc : ∀ i (hi : i < c'.length), oCe A' i c'[i] = oCe A i c'[i] := fun i hi => by
    unfold oCe; rw [(k1 (.cv i) hi (by simp)).1, (k1 (.cf i) hi (by simp)).1]
  have ot : ∀ i (hi : i < t'.length), oTh A' i t'[i] = oTh A i t'[i] := fun i hi => by
    unfold oTh; rw [(k1 (.tf i) hi (by simp)).1]
  obtain ⟨Q, q1, q2, q3⟩ := h.ce
  obtain ⟨T, t1, t2, t3⟩ := h.th
  refine ⟨⟨Q, by rw [k2 .c trivial (by simp)]; exact q1, q2, fun i hi => by rw [oc i hi]; exact q3 i hi⟩, ⟨T, by rw [k2 .t trivial (by simp)]; exact t1, t2, fun i hi => by rw [ot i hi]; exact t3 i hi⟩, h1, h2, h3, h4,
    fun i hi => by rw [k2 (.cv i) hi (by simp)]; exact h.cv i hi, fun i hi => ?_, fun i hi => ?_, fun x y hx hy => hinj x y ((hl x).1 hx) ((hl y).1 hy), fun x hx => hlo x ((hl x).1 hx)⟩
  · exact (h.cf i hi).move (k2 (.cf i) hi (by simp)) (fun j hj => k1 (.cr i j) (live_cr hi hj) (by simp)) fun j hj => k1 (.ct i j) (live_ct hi hj) (by simp)
  · exact (h.tf i hi).move (k2 (.tf i) hi (by simp)) (fun j hj => k1 (.tr i j) (live_tr hi hj) (by simp)) fun j hj => k1 (.tt i j) (live_tt hi hj) (by simp)
theorem OwnS.withSh (h : OwnS H lo A s) (n : Nat) (l ys : List Shp) (hn : H' n = some (shpBlk (l ++ ys))) (hk : ∀ x, Live s x → x ≠ .sh → H' (A x) = H (A x) ∧ A x ≠ n) (hlo : lo ≤ n) : OwnS H' lo (atSh A n) (s.withSh l) := by
  refine h.top rfl rfl (fun x hx h1 h2 h3 h4 => ⟨atSh_ne h1, (hk x hx h1).1⟩) ⟨ys, hn⟩ ?_ ?_ ?_ (fun x y hx hy e => ?_) fun x hx => ?_
  · rw [show atSh A n .tx = A .tx from rfl, (hk .tx trivial (by simp)).1]; exact h.tx
  · rw [show atSh A n .en = A .en from rfl, (hk .en trivial (by simp)).1]; exact h.en
  · rw [show atSh A n .sa = A .sa from rfl, (hk .sa trivial (by simp)).1]; exact h.sa
  · by_cases c1 : x = .sh <;> by_cases c2 : y = .sh
    · rw [c1, c2]
    · subst c1; rw [atSh_ne c2] at e; exact absurd e.symm (hk y hy c2).2
    · subst c2; rw [atSh_ne c1] at e; exact absurd e (hk x hx c1).2
    · rw [atSh_ne c1, atSh_ne c2] at e; exact h.inj x y hx hy e
  · by_cases c1 : x = .sh
    · subst c1; exact hlo
    · rw [atSh_ne c1]; exact h.lo x hx
def atCv (A : Ad → Nat) (i v : Nat) : Ad → Nat := withC A i v (A (.cf i)) (fun j => A (.cr i j)) (fun j => A (.ct i j))
theorem atCv_ne {i v : Nat} {x : Ad} (h : x ≠ .cv i) : atCv A i v x = A x := by
  unfold atCv
  by_cases hx : ofC i x
  · cases x <;> simp only [ofC] at hx <;> subst hx
    · exact absurd rfl h
    · simp [withC]
    · simp [withC]
    · simp [withC]
  · exact withC_out hx
theorem atCv_self {i v : Nat} : atCv A i v (.cv i) = v := by simp [atCv, withC]
theorem atCv_or {i v : Nat} {c' : GCell} (hi : i < s.cells.length) (hf : c'.frames = s.cells[i].frames) {x : Ad} (hx : Live (s.setC i c') x) : (x = .cv i ∧ atCv A i v x = v) ∨ (x ≠ .cv i ∧ Live s x ∧ atCv A i v x = A x) := by
  by_cases h : x = .cv i
  · subst h; exact .inl ⟨rfl, atCv_self⟩
  · exact .inr ⟨h, live_lessC hi (by rw [hf]; exact Nat.le_refl _) hx, atCv_ne h⟩
theorem OwnS.cVals (h : OwnS H lo A s) {i : Nat} (hi : i < s.cells.length) {c' : GCell} (hf : c'.frames = s.cells[i].frames) (v : Nat) (hk : ∀ x, Live s x → x ≠ .cv i → x ≠ .c → H' (A x) = H (A x)) {R : List (List C)} (hR : H (A .c) = some ⟨.c 43, 4, R⟩)
    (hR' : H' (A .c) = some ⟨.c 43, 4, R.set i (ceR (.own v 2 c'.vals.length) (.own (A (.cf i)) 8 c'.frames.length) c')⟩) (hV : ∃ ys, H' v = some (valBlk (c'.vals ++ ys))) (hv : ∀ x, Live s x → x ≠ .cv i → A x ≠ v) (hlo : lo ≤ v) : OwnS H' lo (atCv A i v) (s.setC i c') := by
  have lr : ∀ j, j < c'.frames.length → Live s (.cr i j) := fun j hj => live_cr hi (by rw [← hf]; exact hj)
  have lt : ∀ j, j < c'.frames.length → Live s (.ct i j) := fun j hj => live_ct hi (by rw [← hf]; exact hj)
  have lf : Live s (.cf i) := hi
  refine h.newC hi v (A (.cf i)) (fun j => A (.cr i j)) (fun j => A (.ct i j)) (fun x hx hn hc => hk x hx (fun e => hn (by rw [e]; exact rfl)) hc) hR hR' hV ?_ (fun e => hv (.cf i) lf (by simp) e.symm) (fun j hj => ⟨fun e => hv _ (lr j hj) (by simp) e.symm, fun e => hv _ (lt j hj) (by simp) e.symm⟩)
    ⟨fun j hj => ⟨h.ne lf (lr j hj) (by simp), h.ne lf (lt j hj) (by simp)⟩, fun j k hj hk => h.ne (lr j hj) (lt k hk) (by simp), fun j k hj hk e => by have := h.inj _ _ (lr j hj) (lr k hk) e; simpa using this, fun j k hj hk e => by have := h.inj _ _ (lt j hj) (lt k hk) e; simpa using this⟩
    (fun x hx hn => ⟨hv x hx (fun e => hn (by rw [e]; exact rfl)), h.ne hx lf (fun e => hn (by rw [e]; exact rfl)), fun j hj => ⟨h.ne hx (lr j hj) (fun e => hn (by rw [e]; exact rfl)), h.ne hx (lt j hj) (fun e => hn (by rw [e]; exact rfl))⟩⟩)
    ⟨hlo, h.lo _ lf, fun j hj => ⟨h.lo _ (lr j hj), h.lo _ (lt j hj)⟩⟩
  rw [hf]
  exact (h.cf i hi).low (hk (.cf i) lf (by simp) (by simp)) (fun j hj => hk _ (live_cr hi hj) (by simp) (by simp)) fun j hj => hk _ (live_ct hi hj) (by simp) (by simp)
end
abbrev hpO (nS : Nat) : D := .agg [.ptr nS 8 0 0]
abbrev stB (A : Ad → Nat) (s : GState) : Blk := ⟨.c 29, 8, [oRow A s]⟩
theorem CsS.atP {H : Hp} {N : Nat → Prop} {n k : Nat} {t : BT} {cs : List C} {ds : List Dt} (hx : H n = some ⟨t, k, [cs]⟩) (hn : N n) (h : CsS H N cs ds) : Shw H N (.ptr n k 0 0) (.at_ true ds) := by
  refine .ptr (fun j => (cs[j]?).getD .any) hn hx rfl (fun j d hd => ?_) (fun j d hd => ?_)
  · obtain ⟨c, h1, -⟩ := (CsS.get h).2 j d hd
    simp [nth2, h1]
  · obtain ⟨c, h1, h2⟩ := (CsS.get h).2 j d hd
    simpa [h1] using h2
section
variable {H : Hp} {lo nx nS : Nat} {A : Ad → Nat} {s : GState}
theorem heap_shw (hO : OwnS H lo A s) (hS : H nS = some (stB A s)) : CsShw H (fun _ => True) [.ptr nS 8 0 0] [.d (.at_ true (eState s))] := ⟨⟨_, rfl, CsS.atP hS trivial (hO.shw fun _ _ => trivial)⟩, trivial⟩
theorem val_shw (v : GVal) : CsShw H (fun _ => True) [.d (eI v.kind), .d (eI v.n)] [.d (eI v.kind), .d (eI v.n)] := ⟨⟨_, rfl, .d rfl⟩, ⟨_, rfl, .d rfl⟩, trivial⟩
theorem heapSlotO_ic (hO : OwnS H lo A s) (hS : H nS = some (stB A s)) (hin : ∀ x ∈ s.shapes, InS x) (of which : GVal) (hv : RefOk s of) (hl : of.kind = 5 → (cellAt s of.n).vals.length ≤ 1000) {K : D → Hp → Nat → Prop} (h : K (.tup [dI (slotW s of which).1, dI (slotW s of which).2]) H nx) :
    ICall Tryz.prog 128 [hpO nS, aD (eVal of), aD (eVal which)] H nx K := by
  refine ICall.lendL (es := [hpD true s, aD (eVal of), aD (eVal which)]) ⟨heap_shw hO hS, val_shw of, val_shw which, trivial⟩ (heapSlot_ok true s hin of which hv hl ⟨?_, h⟩)
  simp
theorem heapOfO_ic (hSol : HSol H) (hO : OwnS H lo A s) (hS : H nS = some (stB A s)) (v : GVal) (hv : RefOk s v) {K : D → Hp → Nat → Prop} (h5 : v.kind = 5 → ∀ nx', nx ≤ nx' → K (.one (.ptr (A .c) 4 v.n.toNat 0)) H nx') (h0 : v.kind ≠ 5 → ∀ nx', nx ≤ nx' → K (.one (.d (.lit (.pointer none)))) H nx') :
    ICall Tryz.prog 124 [hpO nS, aD (eVal v)] H nx K := by
  refine ICall.fresh (by kernel_rfl) fun hfr => ICall.keepH hfr ?_
  obtain ⟨k, n⟩ := v
  have n1 : ∀ x, Live s x → A x < nx := fun x hx => hO.lt hfr hx
  have pS := fresh_lt hfr hS
  have m1 := n1 .c trivial
  obtain ⟨R, r1, r2, r3⟩ := hO.ce
  have e1 : ¬ nS = nx := by omega
  have e2 : ¬ nS = nx + 1 := by omega
  have e3 : ¬ A .c = nx := by omega
  have e4 : ¬ A .c = nx + 1 := by omega
  rw [stB, oRow] at hS
  refine fni_ok [0,1,2,3,4,7] [(3, [0,1,3,7,15,0,32,127,255], (.seg 0 (.seg 1 (.seg 2 (.seg 3 (.seg 4 (.seg 5 (.seg 6 (.seg 7 (.seg 8 .last))))))))))] Tryz.func124 rfl (by kernel_rfl) rfl rfl rfl rfl (by kernel_rfl) ?_
  simp [Nat.add_assoc]
  by_cases c5 : k = 5
  · subst c5
    obtain ⟨hp, hl⟩ := hv rfl
    simp only at hp hl
    obtain ⟨r4, r5⟩ := List.getElem?_eq_some_iff.1 (r3 n.toNat (by omega))
    simp [hS, r1, r4, r5, e1, e2, e3, e4, hp, hl]
    exact ⟨HSol.set (HSol.set hSol (by simp)) (by simp), fun i hi => by rw [if_neg (by omega), if_neg (by omega)], h5 rfl _ (by omega)⟩
  · simp [c5]
    exact ⟨HSol.set (HSol.set hSol (by simp)) (by simp), fun i hi => by rw [if_neg (by omega), if_neg (by omega)], h0 c5 _ (by omega)⟩
end
theorem idxQ_idx {α : Type} [DecidableEq α] {L : List α} {v : α} : idxQ L v = idx L v := by
  by_cases h : v ∈ L
  · have h0 := idxQ_in.2 h
    obtain ⟨k, e⟩ : ∃ k : Nat, idxQ L v = k := ⟨(idxQ L v).toNat, by omega⟩
    rw [e]
    unfold idxQ at e
    split at e
    · rename_i j hj
      obtain rfl : j = k := by omega
      obtain ⟨hk, h1, h2⟩ := List.findIdx?_eq_some_iff_getElem.1 hj
      refine (idx_at v hk (fun hm => ?_) ?_).symm
      · obtain ⟨i, hi, e2⟩ := List.getElem_of_mem hm
        simp at hi
        rw [List.getElem_take] at e2
        have := h2 i (by omega)
        simp at this
        exact this e2.symm
      · rw [List.getD_eq_getElem?_getD, List.getElem?_eq_getElem hk]
        exact (of_decide_eq_true h1).symm
    · omega
  · rw [idx_no h, idxQ_neg fun e => h (idxQ_in.1 e)]
theorem shp_isD (L : List Shp) : 2 = 2 ∧ L.length ≤ (List.map ((fun e => List.map C.d e) ∘ eShape) L).length ∧ ∀ x : List C, x ∈ List.take L.length (List.map ((fun e => List.map C.d e) ∘ eShape) L) → ∀ c : C, c ∈ x → c.isD = true :=
  ⟨rfl, by simp, fun x hx c hc => by
    obtain ⟨y, -, rfl⟩ := List.mem_map.1 (List.mem_of_mem_take hx)
    simp [eShape] at hc
    rcases hc with rfl | rfl <;> rfl⟩
theorem shpz_isD (l zs : List Shp) : 2 = 2 ∧ l.length ≤ (List.map (fun x => [C.d (eI x.1), C.d (eI x.2)]) l ++ List.map (fun x => [C.d (eI x.1), C.d (eI x.2)]) zs).length ∧ ∀ x : List C, x ∈ List.take l.length (List.map (fun x => [C.d (eI x.1), C.d (eI x.2)]) l ++ List.map (fun x => [C.d (eI x.1), C.d (eI x.2)]) zs) → ∀ c : C, c ∈ x → c.isD = true :=
  ⟨rfl, by simp, fun x hx c hc => by
    rw [List.take_left' (by simp)] at hx
    obtain ⟨y, -, rfl⟩ := List.mem_map.1 hx
    simp at hc
    rcases hc with rfl | rfl <;> rfl⟩
theorem shpz_dt (l : List Shp) : List.map ((fun e => List.map C.dt e) ∘ fun x : Shp => [C.d (eI x.1), C.d (eI x.2)]) l = l.map eShape := by
  refine List.map_congr_left fun x _ => ?_
  simp [eShape]
theorem shp_isD2 (L : List Shp) : ∀ x : List C, x ∈ List.map ((fun e => List.map C.d e) ∘ eShape) L → ∀ c : C, c ∈ x → c.isD = true := fun x hx => (shp_isD L).2.2 x (by rw [List.take_of_length_le (by simp)]; exact hx)
theorem shp_dt (L : List Shp) : List.map ((fun e => List.map C.dt e) ∘ (fun e => List.map C.d e) ∘ eShape) L = L.map eShape := by
  refine List.map_congr_left fun x _ => ?_
  simp [eShape]
theorem indexSh_ok (S : Bool) (L : List Shp) (v : Shp) {K : D → List Blk → Prop} (h : K (dI (idxQ L v)) []) : DPure Tryz.prog 191 [dL S (L.map eShape), aD (eShape v)] K := by
  refine fn_ok [0,1,3,4,5,7,8,9,16] [(4, [0,0,0,6,14,31], (.seg 0 (.seg 1 (.seg 2 (.seg 3 (.seg 4 (.seg 5 .last)))))))] Tryz.func191 rfl (by kernel_rfl) rfl rfl rfl rfl (by kernel_rfl) ?_
  simp
  intro hl
  refine loop_ok (ks := [0,1,3,4,5,7,8,9,16]) (pl := [(4, [0,0,0,6,14,31], (.seg 0 (.seg 1 (.seg 2 (.seg 3 (.seg 4 (.seg 5 .last)))))))]) (n0 := 19) (fun x : {k : Nat // k ≤ L.length ∧ ∀ j (_ : j < L.length), j < k → v ≠ L[j]} => [(8, dI x.1)]) (fun x => L.length - x.1) ⟨0, by simp⟩ rfl (by kernel_rfl) (Wk.sub (by simp)) ?_
  rintro ⟨k, hk, ht⟩
  by_cases h1 : k < L.length
  · simp [h1]
    refine alt (fun hb => ?_) (fun hb => ?_)
    · rw [← idxQ_at h1 ht (Prod.ext hb.1 hb.2)]; exact h
    · refine ⟨k + 1, by omega, ⟨by omega, fun j hj hjk => ?_⟩, Wk.sub (by simp [wrap_add (show k < 9223372036854775807 by omega)])⟩
      by_cases e : j = k
      · subst e; exact fun e2 => hb ⟨by rw [e2], by rw [e2]⟩
      · exact ht j hj (by omega)
  · simp [h1]
    obtain rfl : k = L.length := by omega
    rw [← idxQ_no fun j hj => ht j hj hj]
    exact h
theorem shapeWith_ok (S : Bool) (L : List Shp) (hin : ∀ x ∈ L, InS x) (a n : Int) {K : D → List Blk → Prop} (hbad : (withP L a n).2.2 ≠ 0 → K (.tup [.one (.d .emp), dI 0, dI (withP L a n).2.2]) [])
    (hok : (withP L a n).2.2 = 0 → K (.tup [.one (.own 0 2 (withP L a n).1.length), dI (withP L a n).2.1, dI 0]) [shpBlk (withP L a n).1]) : DPure Tryz.prog 136 [dL S (L.map eShape), dI a, dI n] K := by
  refine fn_ok [0,1,2,6,7,8,9,10,11,15,28,33,43,48] [] Tryz.func136 rfl (by kernel_rfl) rfl rfl rfl rfl (by kernel_rfl) ?_
  simp
  refine shapeCheck_ok S L hin ?_
  by_cases c1 : faultP L = 0
  case neg =>
    have e : withP L a n = ([], 0, faultP L) := by unfold withP; rw [if_pos c1]
    rw [e] at hbad
    simp [c1]
    exact hbad c1
  have hlen := (faultP_ok c1).1
  by_cases c2 : 0 ≤ a
  case neg =>
    have e : withP L a n = ([], 0, 1) := by unfold withP; rw [if_neg (by omega), if_pos (by omega)]
    rw [e] at hbad
    simp [c1, c2]
    simpa using hbad (by decide)
  by_cases c3 : a < L.length
  case neg =>
    have e : withP L a n = ([], 0, 1) := by unfold withP; rw [if_neg (by omega), if_pos (by omega)]
    rw [e] at hbad
    simp [c1, c2, c3]
    intro _
    simpa using hbad (by decide)
  by_cases c4 : n < 0
  case pos =>
    have e : withP L a n = ([], 0, 1) := by unfold withP; rw [if_neg (by omega), if_pos (by omega)]
    rw [e] at hbad
    simp [c1, c2, c3, c4]
    intro _
    simpa using hbad (by decide)
  obtain ⟨q, rfl⟩ : ∃ q : Nat, a = q := ⟨a.toNat, by omega⟩
  have c3' : q < L.length := by omega
  simp [c1, c3', c4]
  intro _
  obtain ⟨g1, g2⟩ := faultP_ok c1
  refine names1_ok S L q (g2.2.2.ahead (by omega)) (by omega) (by omega) ?_
  simp
  refine containsI_ok false (namesP L q) n ?_
  have e0 : withP L q n = if n ∈ namesP L q then ([], 0, 6) else if ((q : Int), n) ∈ L then (L, idx L (q, n), 0) else if L.length = 100 then ([], 0, 2) else (L ++ [((q : Int), n)], L.length, 0) := by
    unfold withP; rw [if_neg (by omega), if_neg (by omega)]; simp
  rw [e0] at hbad hok
  by_cases c5 : n ∈ namesP L q
  · rw [if_pos c5] at hbad
    have : 0 ≤ idxQ (namesP L q) n := idxQ_in.2 c5
    simp [this]
    simpa using hbad (by decide)
  rw [if_neg c5] at hbad hok
  have : ¬ 0 ≤ idxQ (namesP L q) n := fun e => c5 (idxQ_in.1 e)
  simp [this]
  refine cloneSh_ok S (L.map eShape) (fun e he => by obtain ⟨x, -, rfl⟩ := List.mem_map.1 he; rfl) (fun e he d hd => by obtain ⟨x, -, rfl⟩ := List.mem_map.1 he; simp [eShape] at hd; rcases hd with rfl | rfl <;> rfl) (by simp; omega) ?_
  simp
  rw [if_pos (shp_isD L), shp_dt L]
  simp only [Option.bind_some]
  refine indexSh_ok false L (q, n) ?_
  rw [idxQ_idx]
  by_cases c6 : ((q : Int), n) ∈ L
  · rw [if_pos c6] at hok
    have h0 : 0 ≤ idx L ((q : Int), n) := by rw [← idxQ_idx]; exact idxQ_in.2 c6
    simp [h0]
    rw [if_pos (shp_isD2 L)]
    exact hok rfl
  rw [if_neg c6] at hbad hok
  have h0 : ¬ 0 ≤ idx L ((q : Int), n) := by rw [← idxQ_idx]; exact fun e => c6 (idxQ_in.1 e)
  by_cases c7 : L.length = 100
  · rw [if_pos c7] at hbad
    simp [h0, c7]
    simpa using hbad (by decide)
  rw [if_neg c7] at hok
  have c7' : ¬ (L.length : Int) = 100 := by omega
  simp [h0, c7, c7']
  intro _
  refine ⟨fun m b e hb => ?_, .inl (by omega), fun _ => ?_⟩
  · subst e
    simp at hb
    subst hb
    exact ⟨rfl, rfl⟩
  · rw [if_pos (fun x hx => (List.mem_append.1 hx).elim (shp_isD2 L x) fun h c hc => by rw [List.mem_singleton] at h; subst h; simp at hc; rcases hc with rfl | rfl <;> rfl)]
    simpa [shpBlk, Function.comp_def, eShape] using hok rfl
end Go.Proofs.YtomhiphiogbbiaaGreatDoor
