/- Several texts in one. -/
import Derived.Test.YtbphdcffpobcbaaGreatDoorMf
import Derived.Test.YtbphdcffpobcbaaGreatDoorMg
import Derived.Test.YtbphdcffpobcbaaGreatDoorMo
import Derived.Test.YtbphdcffpobcbaaGreatDoorMs
import Derived.Test.YtbphdcffpobcbaaGreatDoorMka
set_option linter.unusedSimpArgs false
set_option linter.unusedVariables false
set_option maxRecDepth 100000
set_option maxHeartbeats 16000000
namespace Go.Proofs.YtbphdcffpobcbaaGreatDoor
open Go.RowKit Go
attribute [simp] nilOf
abbrev hpD (S : Bool) (s : GState) : D := .agg [.d (.at_ S (eState s))]
def kindW (s : GState) (v : GVal) : Int :=
  if v.kind = 5 then (if (cellAt s v.n).kind = 1 then 13 else if (cellAt s v.n).kind = 2 then 14 else if (cellAt s v.n).kind = 4 then 15 else if (cellAt s v.n).kind = 5 then 16 else if (cellAt s v.n).kind = 6 then 17 else if (cellAt s v.n).kind = 7 then 18 else 8)
  else if v.kind = 6 then 15 else 8 + v.kind
def RefOk (s : GState) (v : GVal) : Prop := v.kind = 5 → 0 ≤ v.n ∧ v.n < s.cells.length
theorem fits_ref {s : GState} {v : GVal} (h : fitsB s v = true) : RefOk s v := fun e5 => by
  simp only [fitsB, Bool.and_eq_true] at h
  have hp := right_nonneg h.1 e5
  have h2 := h.2
  rw [if_neg (by omega), if_pos e5] at h2
  simp only [Bool.and_eq_true, decide_eq_true_eq] at h2
  exact ⟨hp, h2.1⟩
def ofD (s : GState) (v : GVal) : D := if v.kind = 5 then .one (.d (.at_ true (eCell (cellAt s v.n)))) else .one (.d (.lit (.pointer none)))
theorem heapOf_ok (S : Bool) (s : GState) (v : GVal) (hv : RefOk s v) {K : D → List Blk → Prop} (h : K (ofD s v) []) : DPure Tryz.prog 80 [hpD S s, aD (eVal v)] K := by
  obtain ⟨k, n⟩ := v
  refine fn_ok [0,1,2,3,4,7] [(3, [0,1,3,7,15,0,32,127,255], (.seg 0 (.seg 1 (.seg 2 (.seg 3 (.seg 4 (.seg 5 (.seg 6 (.seg 7 (.seg 8 .last))))))))))] Tryz.func80 rfl (by kernel_rfl) rfl rfl rfl rfl (by kernel_rfl) ?_
  simp
  by_cases e5 : k = 5
  · subst e5
    obtain ⟨hp, hl⟩ := hv rfl
    simp only [ofD, if_true, cellAt_eq hp hl] at h
    simp [hl, hp, cell_get hp hl]
    exact h
  · simp only [ofD, if_neg e5] at h
    simp [e5]
    exact h
theorem heapKind_ok (S : Bool) (s : GState) (v : GVal) (hv : RefOk s v) (hk : -1000000 ≤ v.kind ∧ v.kind ≤ 1000000) {K : D → List Blk → Prop} (h : K (dI (kindW s v)) []) : DPure Tryz.prog 74 [hpD S s, aD (eVal v)] K := by
  obtain ⟨k, n⟩ := v
  refine fn_ok [0,1,2,3,4,5,7,8,16,17,19,21,23,25,27,29] [] Tryz.func74 rfl (by kernel_rfl) rfl rfl rfl rfl (by kernel_rfl) ?_
  simp
  by_cases e5 : k = 5
  · subst e5
    simp
    refine heapOf_ok S s ⟨5, n⟩ hv ?_
    simp only [kindW, if_true] at h
    simp only [ofD, if_true]
    generalize cellAt s n = c at *
    simp
    by_cases c1 : c.kind = 1
    · simp [c1] at h ⊢; exact h
    by_cases c2 : c.kind = 2
    · simp [c2] at h ⊢; exact h
    by_cases c4 : c.kind = 4
    · simp [c4] at h ⊢; exact h
    by_cases c5 : c.kind = 5
    · simp [c5] at h ⊢; exact h
    by_cases c6 : c.kind = 6
    · simp [c6] at h ⊢; exact h
    by_cases c7 : c.kind = 7
    · simp [c7] at h ⊢; exact h
    simp [c1, c2, c4, c5, c6, c7] at h ⊢; exact h
  by_cases e6 : k = 6
  · subst e6
    simp [kindW] at h ⊢
    exact h
  · simp only at hk
    simp [kindW, e5, e6, wrap_id (show (-9223372036854775808 : Int) ≤ 8 + k by omega) (show 8 + k ≤ 9223372036854775807 by omega)] at h ⊢
    exact h
theorem ICall.lendL {P : Program} {f : FuncId} {ds es : List D} {H : Hp} {nx : Nat} {K : D → Hp → Nat → Prop} (hd : DsShw H (fun _ => True) ds es) (h : DPure P f es fun d _ => d.litD ∧ K d H nx) : ICall P f ds H nx K :=
  ⟨h.1, fun β F ι w vs hg hH hvs => by
    have hF1 : ∀ b, giv F ι H (fun _ => True) b → b < w.heap.size := fun b hb => by
      rcases hb with hb | ⟨n, cap, -, g1, g2, g3⟩
      · exact hH.Flt b hb
      · exact (hH.own n b cap g1 g2 g3).1
    have hgl : GlOk (giv F ι H (fun _ => True)) w := fun g arr hm => by
      obtain ⟨a1, a2⟩ := hH.gl hg g arr hm
      exact ⟨.inl a1, a2⟩
    refine (h.2 (giv F ι H (fun _ => True)) w vs hF1 hgl (RVs.wide (DsShw.rvs (ι' := fun _ => none) hH.blk hd hvs))).mono fun _ w' ⟨F', ι', d, fr, v, e1, ho, e2, e3⟩ => ?_
    have ho2 : Out F w w' F (fun _ => none) .top [] v := ⟨ho.size, ho.old, fun b hb => hb, fun b hb => ⟨.inl hb, Nat.lt_of_lt_of_le (hH.Flt b hb) ho.size⟩, fun i x hx => by simp at hx, fun i b cap hi => by simp at hi, fun i j b c c' hi => by simp at hi, fun _ _ => rfl, by rw [RV]; trivial, ho.io⟩
    have hh : Holds β F ι ⟨0, [], H, nx⟩ ⟨#[], []⟩ w := ⟨hg, rfl, rfl, fun t => by rw [show lk [] t = D.top from rfl, RV]; trivial, hH⟩
    obtain ⟨ι2, g1, g2, g3⟩ := hh.out ho2
    have hle : Env.le ⟨F, β.B⟩ ⟨F, β.B⟩ w w' := ⟨fun _ h => h, fun _ h => h, fun b hb => ho.old b (hH.Flt b hb), fun b hb => ho.old b (Nat.lt_of_lt_of_le hb.1 hH.size)⟩
    have g4 : HpOk β F w' ι2 H nx := by simpa [St.adds, addsH] using g1.heap
    exact ⟨F, ι2, H, nx, d, v, e1, g4, hle, g3, ho.val.litD e2, e3⟩⟩
def CsW (nx : Nat) : List C → List C → Prop
  | [], [] => True
  | c :: cs, e :: es => (c = e ∨ (c = .d .emp ∧ ∃ z, e = .own nx z 0)) ∧ CsW nx cs es
  | _, _ => False
def DW (nx : Nat) : D → D → Prop
  | .agg cs, .agg es => CsW nx cs es
  | d, e => d = e
def DsW (nx : Nat) : List D → List D → Prop
  | [], [] => True
  | d :: ds, e :: es => DW nx d e ∧ DsW nx ds es
  | _, _ => False
section
variable {E : Env} {w : World} {ι : Nms} {nx : Nat}
theorem CsW.rcs (hx : ι nx = some (0, 0)) : ∀ {cs es : List C} {vs : List Value}, CsW nx cs es → RCs E w ι cs vs → RCs E w ι es vs
  | [], [], _, _, h => h
  | _ :: _, _ :: _, [], _, h => h.elim
  | c :: _, e :: _, v :: _, hc, h => ⟨by
    rcases hc.1 with e1 | ⟨e1, z, e2⟩
    · rw [← e1]; exact h.1
    · rw [e2]
      have h1 := h.1
      rw [e1] at h1
      have h2 : RD E w .emp v := h1
      cases h2
      exact ⟨0, 0, hx, Nat.le_refl _, by simp [maxLen], .inl ⟨rfl, _, rfl⟩⟩, CsW.rcs hx hc.2 h.2⟩
  | [], _ :: _, _, hc, _ => hc.elim
  | _ :: _, [], _, hc, _ => hc.elim
theorem DW.rv (hx : ι nx = some (0, 0)) {d e : D} {v : Value} (hd : DW nx d e) (h : RV E w ι d v) : RV E w ι e v := by
  unfold DW at hd
  split at hd
  · rw [RV] at h ⊢
    obtain ⟨xs, h1, h2⟩ := h
    exact ⟨xs, h1, hd.rcs hx h2⟩
  · subst hd; exact h
theorem DsW.rvs (hx : ι nx = some (0, 0)) : ∀ {ds es : List D} {vs : List Value}, DsW nx ds es → RVs E w ι ds vs → RVs E w ι es vs
  | [], [], _, _, h => h
  | _ :: _, _ :: _, [], _, h => by simp [RVs] at h
  | _ :: _, _ :: _, _ :: _, hd, h => by rw [RVs] at h ⊢; exact ⟨hd.1.rv hx h.1, DsW.rvs hx hd.2 h.2⟩
  | [], _ :: _, _, hd, _ => hd.elim
  | _ :: _, [], _, hd, _ => hd.elim
end
section
variable {H H' : Hp} {lo : Nat} {A A' : Ad → Nat} {s s' : GState}
theorem OwnS.top (h : OwnS H lo A s) (hc : s'.cells = s.cells) (ht : s'.threads = s.threads) (hA : ∀ x, Live s x → x ≠ .sh → x ≠ .tx → x ≠ .en → x ≠ .sa → A' x = A x ∧ H' (A x) = H (A x))
    (h1 : ∃ ys, H' (A' .sh) = some (shpBlk (s'.shapes ++ ys))) (h2 : ∃ ys, H' (A' .tx) = some (txtBlk (s'.texts ++ ys))) (h3 : ∃ ys, H' (A' .en) = some (endBlk (s'.ends ++ ys))) (h4 : ∃ ys, H' (A' .sa) = some (valBlk (s'.said ++ ys)))
    (hinj : ∀ x y, Live s x → Live s y → A' x = A' y → x = y) (hlo : ∀ x, Live s x → lo ≤ A' x) : OwnS H' lo A' s' := by
  obtain ⟨c, sh, tx, t, en, sa, a, st⟩ := s
  obtain ⟨c', sh', tx', t', en', sa', a', st'⟩ := s'
  simp only at hc ht
  subst hc ht
  have hl : ∀ x, Live ⟨c', sh', tx', t', en', sa', a', st'⟩ x ↔ Live ⟨c', sh, tx, t', en, sa, a, st⟩ x := fun x => by cases x <;> exact Iff.rfl
  have k1 : ∀ x, Live ⟨c', sh, tx, t', en, sa, a, st⟩ x → (x ≠ .sh ∧ x ≠ .tx ∧ x ≠ .en ∧ x ≠ .sa) → A' x = A x ∧ H' (A x) = H (A x) := fun x hx e => hA x hx e.1 e.2.1 e.2.2.1 e.2.2.2
  have k2 : ∀ x, Live ⟨c', sh, tx, t', en, sa, a, st⟩ x → (x ≠ .sh ∧ x ≠ .tx ∧ x ≠ .en ∧ x ≠ .sa) → H' (A' x) = H (A x) := fun x hx e => by rw [(k1 x hx e).1]; exact (k1 x hx e).2
  have oc : ∀ i (hi : i < c'.length), oCe A' i c'[i] = oCe A i c'[i] := fun i hi => by
    unfold oCe; rw [(k1 (.cv i) hi (by simp)).1, (k1 (.cf i) hi (by simp)).1]
  have ot : ∀ i (hi : i < t'.length), oTh A' i t'[i] = oTh A i t'[i] := fun i hi => by
    unfold oTh; rw [(k1 (.tf i) hi (by simp)).1]
  obtain ⟨Q, q1, q2, q3⟩ := h.ce
  obtain ⟨T, t1, t2, t3⟩ := h.th
  refine ⟨⟨Q, by rw [k2 .c trivial (by simp)]; exact q1, q2, fun i hi => by rw [oc i hi]; exact q3 i hi⟩, ⟨T, by rw [k2 .t trivial (by simp)]; exact t1, t2, fun i hi => by rw [ot i hi]; exact t3 i hi⟩, h1, h2, h3, h4,
    fun i hi => by rw [k2 (.cv i) hi (by simp)]; exact h.cv i hi, fun i hi => ?_, fun i hi => ?_, fun x y hx hy => hinj x y ((hl x).1 hx) ((hl y).1 hy), fun x hx => hlo x ((hl x).1 hx)⟩
  · exact (h.cf i hi).move (k2 (.cf i) hi (by simp)) (fun j hj => k1 (.cr i j) (live_cr hi hj) (by simp)) fun j hj => k1 (.ct i j) (live_ct hi hj) (by simp)
  · exact (h.tf i hi).move (k2 (.tf i) hi (by simp)) (fun j hj => k1 (.tr i j) (live_tr hi hj) (by simp)) fun j hj => k1 (.tt i j) (live_tt hi hj) (by simp)
end
abbrev stB (A : Ad → Nat) (s : GState) : Blk := ⟨.c 29, 8, [oRow A s]⟩
theorem CsS.atP {H : Hp} {N : Nat → Prop} {n k : Nat} {t : BT} {cs : List C} {ds : List Dt} (hx : H n = some ⟨t, k, [cs]⟩) (hn : N n) (h : CsS H N cs ds) : Shw H N (.ptr n k 0 0) (.at_ true ds) := by
  refine .ptr (fun j => (cs[j]?).getD .any) hn hx rfl (fun j d hd => ?_) (fun j d hd => ?_)
  · obtain ⟨c, h1, -⟩ := (CsS.get h).2 j d hd
    simp [nth2, h1]
  · obtain ⟨c, h1, h2⟩ := (CsS.get h).2 j d hd
    simpa [h1] using h2
section
variable {H : Hp} {lo nx nS : Nat} {A : Ad → Nat} {s : GState}
theorem val_shw (v : GVal) : CsShw H (fun _ => True) [.d (eI v.kind), .d (eI v.n)] [.d (eI v.kind), .d (eI v.n)] := ⟨⟨_, rfl, .d rfl⟩, ⟨_, rfl, .d rfl⟩, trivial⟩
end

end Go.Proofs.YtbphdcffpobcbaaGreatDoor
