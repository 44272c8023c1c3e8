/- Several texts in one. -/
import Derived.Test.YtbphdcffpobcbaaGreatDoorMf
import Derived.Test.YtbphdcffpobcbaaGreatDoorMg
import Derived.Test.YtbphdcffpobcbaaGreatDoorMo
import Derived.Test.YtbphdcffpobcbaaGreatDoorMs
import Derived.Test.YtbphdcffpobcbaaGreatDoorMka
set_option linter.unusedSimpArgs false
set_option linter.unusedVariables false
set_option maxRecDepth 100000
set_option maxHeartbeats 16000000
namespace Go.Proofs.YtbphdcffpobcbaaGreatDoor
open Go.RowKit Go
attribute [simp] nilOf
abbrev hpD (S : Bool) (s : GState) : D := .agg [.d (.at_ S (eState s))]
def kindW (s : GState) (v : GVal) : Int :=
  if v.kind = 5 then (if (cellAt s v.n).kind = 1 then 13 else if (cellAt s v.n).kind = 2 then 14 else if (cellAt s v.n).kind = 4 then 15 else if (cellAt s v.n).kind = 5 then 16 else if (cellAt s v.n).kind = 6 then 17 else if (cellAt s v.n).kind = 7 then 18 else 8)
  else if v.kind = 6 then 15 else 8 + v.kind
def RefOk (s : GState) (v : GVal) : Prop := v.kind = 5 → 0 ≤ v.n ∧ v.n < s.cells.length
theorem fits_ref {s : GState} {v : GVal} (h : fitsB s v = true) : RefOk s v := fun e5 => by
  simp only [fitsB, Bool.and_eq_true] at h
  have hp := right_nonneg h.1 e5
  have h2 := h.2
  rw [if_neg (by omega), if_pos e5] at h2
  simp only [Bool.and_eq_true, decide_eq_true_eq] at h2
  exact ⟨hp, h2.1⟩
def ofD (s : GState) (v : GVal) : D := if v.kind = 5 then .one (.d (.at_ true (eCell (cellAt s v.n)))) else .one (.d (.lit (.pointer none)))
theorem heapOf_ok (S : Bool) (s : GState) (v : GVal) (hv : RefOk s v) {K : D → List Blk → Prop} (h : K (ofD s v) []) : DPure Tryz.prog 80 [hpD S s, aD (eVal v)] K := by
  obtain ⟨k, n⟩ := v
  refine fn_ok [0,1,2,3,4,7] [(3, [0,1,3,7,15,0,32,127,255], (.seg 0 (.seg 1 (.seg 2 (.seg 3 (.seg 4 (.seg 5 (.seg 6 (.seg 7 (.seg 8 .last))))))))))] Tryz.func80 rfl (by kernel_rfl) rfl rfl rfl rfl (by kernel_rfl) ?_
  simp
  by_cases e5 : k = 5
  · subst e5
    obtain ⟨hp, hl⟩ := hv rfl
    simp only [ofD, if_true, cellAt_eq hp hl] at h
    simp [hl, hp, cell_get hp hl]
    exact h
  · simp only [ofD, if_neg e5] at h
    simp [e5]
    exact h
theorem heapKind_ok (S : Bool) (s : GState) (v : GVal) (hv : RefOk s v) (hk : -1000000 ≤ v.kind ∧ v.kind ≤ 1000000) {K : D → List Blk → Prop} (h : K (dI (kindW s v)) []) : DPure Tryz.prog 74 [hpD S s, aD (eVal v)] K := by
  obtain ⟨k, n⟩ := v
  refine fn_ok [0,1,2,3,4,5,7,8,16,17,19,21,23,25,27,29] [] Tryz.func74 rfl (by kernel_rfl) rfl rfl rfl rfl (by kernel_rfl) ?_
  simp
  by_cases e5 : k = 5
  · subst e5
    simp
    refine heapOf_ok S s ⟨5, n⟩ hv ?_
    simp only [kindW, if_true] at h
    simp only [ofD, if_true]
    generalize cellAt s n = c at *
    simp
    by_cases c1 : c.kind = 1
    · simp [c1] at h ⊢; exact h
    by_cases c2 : c.kind = 2
    · simp [c2] at h ⊢; exact h
    by_cases c4 : c.kind = 4
    · simp [c4] at h ⊢; exact h
    by_cases c5 : c.kind = 5
    · simp [c5] at h ⊢; exact h
    by_cases c6 : c.kind = 6
    · simp [c6] at h ⊢; exact h
    by_cases c7 : c.kind = 7
    · simp [c7] at h ⊢; exact h
    simp [c1, c2, c4, c5, c6, c7] at h ⊢; exact h
  by_cases e6 : k = 6
  · subst e6
    simp [kindW] at h ⊢
    exact h
  · simp only at hk
    simp [kindW, e5, e6, wrap_id (show (-9223372036854775808 : Int) ≤ 8 + k by omega) (show 8 + k ≤ 9223372036854775807 by omega)] at h ⊢
    exact h
theorem ICall.lendL {P : Program} {f : FuncId} {ds es : List D} {H : Hp} {nx : Nat} {K : D → Hp → Nat → Prop} (hd : DsShw H (fun _ => True) ds es) (h : DPure P f es fun d _ => d.litD ∧ K d H nx) : ICall P f ds H nx K :=
  ⟨h.1, fun β F ι w vs hg hH hvs => by
    have hF1 : ∀ b, giv F ι H (fun _ => True) b → b < w.heap.size := fun b hb => by
      rcases hb with hb | ⟨n, cap, -, g1, g2, g3⟩
      · exact hH.Flt b hb
      · exact (hH.own n b cap g1 g2 g3).1
    have hgl : GlOk (giv F ι H (fun _ => True)) w := fun g arr hm => by
      obtain ⟨a1, a2⟩ := hH.gl hg g arr hm
      exact ⟨.inl a1, a2⟩
    refine (h.2 (giv F ι H (fun _ => True)) w vs hF1 hgl (RVs.wide (DsShw.rvs (ι' := fun _ => none) hH.blk hd hvs))).mono fun _ w' ⟨F', ι', d, fr, v, e1, ho, e2, e3⟩ => ?_
    have ho2 : Out F w w' F (fun _ => none) .top [] v := ⟨ho.size, ho.old, fun b hb => hb, fun b hb => ⟨.inl hb, Nat.lt_of_lt_of_le (hH.Flt b hb) ho.size⟩, fun i x hx => by simp at hx, fun i b cap hi => by simp at hi, fun i j b c c' hi => by simp at hi, fun _ _ => rfl, by rw [RV]; trivial, ho.io⟩
    have hh : Holds β F ι ⟨0, [], H, nx⟩ ⟨#[], []⟩ w := ⟨hg, rfl, rfl, fun t => by rw [show lk [] t = D.top from rfl, RV]; trivial, hH⟩
    obtain ⟨ι2, g1, g2, g3⟩ := hh.out ho2
    have hle : Env.le ⟨F, β.B⟩ ⟨F, β.B⟩ w w' := ⟨fun _ h => h, fun _ h => h, fun b hb => ho.old b (hH.Flt b hb), fun b hb => ho.old b (Nat.lt_of_lt_of_le hb.1 hH.size)⟩
    have g4 : HpOk β F w' ι2 H nx := by simpa [St.adds, addsH] using g1.heap
    exact ⟨F, ι2, H, nx, d, v, e1, g4, hle, g3, ho.val.litD e2, e3⟩⟩
def CsW (nx : Nat) : List C → List C → Prop
  | [], [] => True
  | c :: cs, e :: es => (c = e ∨ (c = .d .emp ∧ ∃ z, e = .own nx z 0)) ∧ CsW nx cs es
  | _, _ => False
def DW (nx : Nat) : D → D → Prop
  | .agg cs, .agg es => CsW nx cs es
  | d, e => d = e
def DsW (nx : Nat) : List D → List D → Prop
  | [], [] => True
  | d :: ds, e :: es => DW nx d e ∧ DsW nx ds es
  | _, _ => False
section
variable {E : Env} {w : World} {ι : Nms} {nx : Nat}
theorem CsW.rcs (hx : ι nx = some (0, 0)) : ∀ {cs es : List C} {vs : List Value}, CsW nx cs es → RCs E w ι cs vs → RCs E w ι es vs
  | [], [], _, _, h => h
  | _ :: _, _ :: _, [], _, h => h.elim
  | c :: _, e :: _, v :: _, hc, h => ⟨by
    rcases hc.1 with e1 | ⟨e1, z, e2⟩
    · rw [← e1]; exact h.1
    · rw [e2]
      have h1 := h.1
      rw [e1] at h1
      have h2 : RD E w .emp v := h1
      cases h2
      exact ⟨0, 0, hx, Nat.le_refl _, by simp [maxLen], .inl ⟨rfl, _, rfl⟩⟩, CsW.rcs hx hc.2 h.2⟩
  | [], _ :: _, _, hc, _ => hc.elim
  | _ :: _, [], _, hc, _ => hc.elim
theorem DW.rv (hx : ι nx = some (0, 0)) {d e : D} {v : Value} (hd : DW nx d e) (h : RV E w ι d v) : RV E w ι e v := by
  unfold DW at hd
  split at hd
  · rw [RV] at h ⊢
    obtain ⟨xs, h1, h2⟩ := h
    exact ⟨xs, h1, hd.rcs hx h2⟩
  · subst hd; exact h
theorem DsW.rvs (hx : ι nx = some (0, 0)) : ∀ {ds es : List D} {vs : List Value}, DsW nx ds es → RVs E w ι ds vs → RVs E w ι es vs
  | [], [], _, _, h => h
  | _ :: _, _ :: _, [], _, h => by simp [RVs] at h
  | _ :: _, _ :: _, _ :: _, hd, h => by rw [RVs] at h ⊢; exact ⟨hd.1.rv hx h.1, DsW.rvs hx hd.2 h.2⟩
  | [], _ :: _, _, hd, _ => hd.elim
  | _ :: _, [], _, hd, _ => hd.elim
end
theorem ICall.ownA {P : Program} {f : FuncId} {ds es : List D} {H : Hp} {nx : Nat} {K : D → Hp → Nat → Prop} (e : TypeId) (z : Nat) (hd : DsW nx ds es) (h : ICall P f es (H.set nx (some ⟨.c e, z, []⟩)) (nx + 1) K) : ICall P f ds H nx K :=
  ⟨h.1, fun β F ι w vs hg hH hvs => by
    obtain ⟨h1, h2⟩ := hH.adopt (x := ⟨.c e, z, []⟩) (b := 0) (cap := 0) ⟨0, 0, by simp [Nms.set], Nat.le_refl _, fun _ h => (by simp at h), fun h => absurd h (by omega)⟩ (fun h => absurd h (by omega)) (fun _ _ _ _ _ h => absurd h (by omega))
    have hle : Env.le ⟨F, β.B⟩ ⟨F, β.B⟩ w w := ⟨fun _ h => h, fun _ h => h, fun _ _ => rfl, fun _ _ => rfl⟩
    have hx : (ι.set nx (0, 0)) nx = some (0, 0) := by simp [Nms.set]
    refine (h.2 β F (ι.set nx (0, 0)) w vs hg h1 (hd.rvs hx (RVs.keep hle h2 hvs))).mono fun _ w' ⟨F', ι', H', nx', d, v, e1, e2, e3, e4, e5, e6⟩ => ?_
    exact ⟨F', ι', H', nx', d, v, e1, e2, e3, fun n x hn => e4 n x (h2 n x hn), e5, e6⟩⟩
theorem vrowS {l ys : List GVal} {q : Nat} (h : q < l.length) (v : GVal) : ((l ++ ys).map fun v => (eVal v).map C.d).set q [.d (eI v.kind), .d (eI v.n)] = (l.set q v ++ ys).map fun v => (eVal v).map C.d := by
  rw [← List.set_append_left _ _ h, List.map_set]; rfl
theorem vrowG {l ys : List GVal} {q : Nat} (h : q < l.length) : ((l ++ ys).map fun v => (eVal v).map C.d)[q]? = some [.d (eI l[q].kind), .d (eI l[q].n)] := by
  rw [List.getElem?_map, List.getElem?_append_left h, List.getElem?_eq_getElem h]; rfl
def atTx (A : Ad → Nat) (n : Nat) : Ad → Nat
  | .tx => n
  | x => A x
def atEn (A : Ad → Nat) (n : Nat) : Ad → Nat
  | .en => n
  | x => A x
def atCe (A : Ad → Nat) (n : Nat) : Ad → Nat
  | .c => n
  | x => A x
theorem atTx_ne {A : Ad → Nat} {n : Nat} {x : Ad} (h : x ≠ .tx) : atTx A n x = A x := by cases x <;> first | rfl | exact absurd rfl h
theorem atEn_ne {A : Ad → Nat} {n : Nat} {x : Ad} (h : x ≠ .en) : atEn A n x = A x := by cases x <;> first | rfl | exact absurd rfl h
theorem atCe_ne {A : Ad → Nat} {n : Nat} {x : Ad} (h : x ≠ .c) : atCe A n x = A x := by cases x <;> first | rfl | exact absurd rfl h
section
variable {H H' : Hp} {lo : Nat} {A A' : Ad → Nat} {s s' : GState}
theorem OwnS.top (h : OwnS H lo A s) (hc : s'.cells = s.cells) (ht : s'.threads = s.threads) (hA : ∀ x, Live s x → x ≠ .sh → x ≠ .tx → x ≠ .en → x ≠ .sa → A' x = A x ∧ H' (A x) = H (A x))
    (h1 : ∃ ys, H' (A' .sh) = some (shpBlk (s'.shapes ++ ys))) (h2 : ∃ ys, H' (A' .tx) = some (txtBlk (s'.texts ++ ys))) (h3 : ∃ ys, H' (A' .en) = some (endBlk (s'.ends ++ ys))) (h4 : ∃ ys, H' (A' .sa) = some (valBlk (s'.said ++ ys)))
    (hinj : ∀ x y, Live s x → Live s y → A' x = A' y → x = y) (hlo : ∀ x, Live s x → lo ≤ A' x) : OwnS H' lo A' s' := by
  obtain ⟨c, sh, tx, t, en, sa, a, st⟩ := s
  obtain ⟨c', sh', tx', t', en', sa', a', st'⟩ := s'
  simp only at hc ht
  subst hc ht
  have hl : ∀ x, Live ⟨c', sh', tx', t', en', sa', a', st'⟩ x ↔ Live ⟨c', sh, tx, t', en, sa, a, st⟩ x := fun x => by cases x <;> exact Iff.rfl
  have k1 : ∀ x, Live ⟨c', sh, tx, t', en, sa, a, st⟩ x → (x ≠ .sh ∧ x ≠ .tx ∧ x ≠ .en ∧ x ≠ .sa) → A' x = A x ∧ H' (A x) = H (A x) := fun x hx e => hA x hx e.1 e.2.1 e.2.2.1 e.2.2.2
  have k2 : ∀ x, Live ⟨c', sh, tx, t', en, sa, a, st⟩ x → (x ≠ .sh ∧ x ≠ .tx ∧ x ≠ .en ∧ x ≠ .sa) → H' (A' x) = H (A x) := fun x hx e => by rw [(k1 x hx e).1]; exact (k1 x hx e).2
  have oc : ∀ i (hi : i < c'.length), oCe A' i c'[i] = oCe A i c'[i] := fun i hi => by
    unfold oCe; rw [(k1 (.cv i) hi (by simp)).1, (k1 (.cf i) hi (by simp)).1]
  have ot : ∀ i (hi : i < t'.length), oTh A' i t'[i] = oTh A i t'[i] := fun i hi => by
    unfold oTh; rw [(k1 (.tf i) hi (by simp)).1]
  obtain ⟨Q, q1, q2, q3⟩ := h.ce
  obtain ⟨T, t1, t2, t3⟩ := h.th
  refine ⟨⟨Q, by rw [k2 .c trivial (by simp)]; exact q1, q2, fun i hi => by rw [oc i hi]; exact q3 i hi⟩, ⟨T, by rw [k2 .t trivial (by simp)]; exact t1, t2, fun i hi => by rw [ot i hi]; exact t3 i hi⟩, h1, h2, h3, h4,
    fun i hi => by rw [k2 (.cv i) hi (by simp)]; exact h.cv i hi, fun i hi => ?_, fun i hi => ?_, fun x y hx hy => hinj x y ((hl x).1 hx) ((hl y).1 hy), fun x hx => hlo x ((hl x).1 hx)⟩
  · exact (h.cf i hi).move (k2 (.cf i) hi (by simp)) (fun j hj => k1 (.cr i j) (live_cr hi hj) (by simp)) fun j hj => k1 (.ct i j) (live_ct hi hj) (by simp)
  · exact (h.tf i hi).move (k2 (.tf i) hi (by simp)) (fun j hj => k1 (.tr i j) (live_tr hi hj) (by simp)) fun j hj => k1 (.tt i j) (live_tt hi hj) (by simp)
theorem OwnS.withTx (h : OwnS H lo A s) (n : Nat) (l ys : List ByteArray) (hn : H' n = some (txtBlk (l ++ ys))) (hk : ∀ x, Live s x → x ≠ .tx → H' (A x) = H (A x) ∧ A x ≠ n) (hlo : lo ≤ n) : OwnS H' lo (atTx A n) (s.withTx l) := by
  refine h.top rfl rfl (fun x hx h1 h2 h3 h4 => ⟨atTx_ne h2, (hk x hx h2).1⟩) ?_ ⟨ys, hn⟩ ?_ ?_ (fun x y hx hy e => ?_) fun x hx => ?_
  · rw [show atTx A n .sh = A .sh from rfl, (hk .sh trivial (by simp)).1]; exact h.sh
  · rw [show atTx A n .en = A .en from rfl, (hk .en trivial (by simp)).1]; exact h.en
  · rw [show atTx A n .sa = A .sa from rfl, (hk .sa trivial (by simp)).1]; exact h.sa
  · by_cases c1 : x = .tx <;> by_cases c2 : y = .tx
    · rw [c1, c2]
    · subst c1; rw [atTx_ne c2] at e; exact absurd e.symm (hk y hy c2).2
    · subst c2; rw [atTx_ne c1] at e; exact absurd e (hk x hx c1).2
    · rw [atTx_ne c1, atTx_ne c2] at e; exact h.inj x y hx hy e
  · by_cases c1 : x = .tx
    · subst c1; exact hlo
    · rw [atTx_ne c1]; exact h.lo x hx
theorem OwnS.withEn (h : OwnS H lo A s) (n : Nat) (l ys : List GEnd) (hn : H' n = some (endBlk (l ++ ys))) (hk : ∀ x, Live s x → x ≠ .en → H' (A x) = H (A x) ∧ A x ≠ n) (hlo : lo ≤ n) : OwnS H' lo (atEn A n) (s.withEn l) := by
  refine h.top rfl rfl (fun x hx h1 h2 h3 h4 => ⟨atEn_ne h3, (hk x hx h3).1⟩) ?_ ?_ ⟨ys, hn⟩ ?_ (fun x y hx hy e => ?_) fun x hx => ?_
  · rw [show atEn A n .sh = A .sh from rfl, (hk .sh trivial (by simp)).1]; exact h.sh
  · rw [show atEn A n .tx = A .tx from rfl, (hk .tx trivial (by simp)).1]; exact h.tx
  · rw [show atEn A n .sa = A .sa from rfl, (hk .sa trivial (by simp)).1]; exact h.sa
  · by_cases c1 : x = .en <;> by_cases c2 : y = .en
    · rw [c1, c2]
    · subst c1; rw [atEn_ne c2] at e; exact absurd e.symm (hk y hy c2).2
    · subst c2; rw [atEn_ne c1] at e; exact absurd e (hk x hx c1).2
    · rw [atEn_ne c1, atEn_ne c2] at e; exact h.inj x y hx hy e
  · by_cases c1 : x = .en
    · subst c1; exact hlo
    · rw [atEn_ne c1]; exact h.lo x hx
theorem OwnS.addC (h : OwnS H lo A s) (n v f : Nat) (c : GCell) (hfr : c.frames = []) {R : List (List C)} (hR : H' n = some ⟨.c 75, 4, R ++ [ceR (.own v 2 c.vals.length) (.own f 8 0) c]⟩) (hR2 : newRs R) (hRl : R.length = s.cells.length) (hR3 : ∀ (i : Nat) (h : i < s.cells.length), R[i]? = some (oCe A i s.cells[i]))
    (hV : ∃ ys, H' v = some (valBlk (c.vals ++ ys))) (hF : ∃ FR, H' f = some ⟨.c 100, 8, FR⟩ ∧ newRs FR) (hvf : v ≠ f) (hn : n ≠ v ∧ n ≠ f) (hk : ∀ x, Live s x → x ≠ .c → H' (A x) = H (A x) ∧ A x ≠ n ∧ A x ≠ v ∧ A x ≠ f) (hlo : lo ≤ n ∧ lo ≤ v ∧ lo ≤ f) :
    OwnS H' lo (atCe (withC A s.cells.length v f (fun _ => 0) (fun _ => 0)) n) (s.addC c) := by
  have hB : ∀ x, Live (s.addC c) x → x ≠ .c → (x = .cv s.cells.length) ∨ (x = .cf s.cells.length) ∨ (Live s x ∧ ¬ ofC s.cells.length x) := fun x hx e => by
    cases x with
    | c => exact absurd rfl e
    | cv i =>
      have hx : i < (s.cells ++ [c]).length := hx
      simp at hx
      by_cases e : i = s.cells.length
      · exact .inl (by rw [e])
      · exact .inr (.inr ⟨show i < s.cells.length by omega, e⟩)
    | cf i =>
      have hx : i < (s.cells ++ [c]).length := hx
      simp at hx
      by_cases e : i = s.cells.length
      · exact .inr (.inl (by rw [e]))
      · exact .inr (.inr ⟨show i < s.cells.length by omega, e⟩)
    | cr i j =>
      obtain ⟨d, h1, h2⟩ := hx
      simp only [GState.addC] at h1
      rw [List.getElem?_append] at h1
      split at h1
      · exact .inr (.inr ⟨⟨d, h1, h2⟩, fun e => by simp only [ofC] at e; omega⟩)
      · rw [List.getElem?_singleton] at h1
        split at h1
        · simp only [Option.some.injEq] at h1; subst h1; rw [hfr] at h2; simp at h2
        · cases h1
    | ct i j =>
      obtain ⟨d, h1, h2⟩ := hx
      simp only [GState.addC] at h1
      rw [List.getElem?_append] at h1
      split at h1
      · exact .inr (.inr ⟨⟨d, h1, h2⟩, fun e => by simp only [ofC] at e; omega⟩)
      · rw [List.getElem?_singleton] at h1
        split at h1
        · simp only [Option.some.injEq] at h1; subst h1; rw [hfr] at h2; simp at h2
        · cases h1
    | _ => exact .inr (.inr ⟨hx, fun e => e⟩)
  generalize hB' : atCe (withC A s.cells.length v f (fun _ => 0) (fun _ => 0)) n = B
  have bv : B (.cv s.cells.length) = v := by subst hB'; simp [atCe, withC]
  have bf : B (.cf s.cells.length) = f := by subst hB'; simp [atCe, withC]
  have bc : B .c = n := by subst hB'; rfl
  have bo : ∀ x, x ≠ .c → ¬ ofC s.cells.length x → B x = A x := fun x h1 h2 => by subst hB'; rw [atCe_ne h1, withC_out h2]
  have nocv : ∀ {i}, i < s.cells.length → ¬ ofC s.cells.length (.cv i) := fun hi e => by simp only [ofC] at e; omega
  have nocf : ∀ {i}, i < s.cells.length → ¬ ofC s.cells.length (.cf i) := fun hi e => by simp only [ofC] at e; omega
  have nocr : ∀ {i j}, i < s.cells.length → ¬ ofC s.cells.length (.cr i j) := fun hi e => by simp only [ofC] at e; omega
  have noct : ∀ {i j}, i < s.cells.length → ¬ ofC s.cells.length (.ct i j) := fun hi e => by simp only [ofC] at e; omega
  have kk : ∀ x, Live s x → x ≠ .c → ¬ ofC s.cells.length x → B x = A x ∧ H' (A x) = H (A x) := fun x hx h1 h2 => ⟨bo x h1 h2, (hk x hx h1).1⟩
  have k2 : ∀ x, Live s x → x ≠ .c → ¬ ofC s.cells.length x → H' (B x) = H (A x) := fun x hx h1 h2 => by rw [(kk x hx h1 h2).1]; exact (kk x hx h1 h2).2
  obtain ⟨T, t1, t2, t3⟩ := h.th
  have hlen : (s.addC c).cells.length = s.cells.length + 1 := by simp [GState.addC]
  have get1 : ∀ i (hi : i < s.cells.length) (hi' : i < (s.addC c).cells.length), (s.addC c).cells[i] = s.cells[i] := fun i hi hi' => by simp only [GState.addC]; rw [List.getElem_append_left hi]
  have get2 : ∀ (hi' : s.cells.length < (s.addC c).cells.length), (s.addC c).cells[s.cells.length] = c := fun hi' => by simp [GState.addC]
  refine ⟨⟨_, by rw [bc]; exact hR, fun e he d hd => ?_, fun i hi => ?_⟩, ⟨T, by rw [k2 .t trivial (by simp) (fun e => e)]; exact t1, t2, fun i hi => ?_⟩, by rw [k2 .sh trivial (by simp) (fun e => e)]; exact h.sh, by rw [k2 .tx trivial (by simp) (fun e => e)]; exact h.tx, by rw [k2 .en trivial (by simp) (fun e => e)]; exact h.en, by rw [k2 .sa trivial (by simp) (fun e => e)]; exact h.sa,
    fun i hi => ?_, fun i hi => ?_, fun i hi => ?_, fun x y hx hy e => ?_, fun x hx => ?_⟩
  · rcases List.mem_append.1 he with he | he
    · exact hR2 e he d hd
    · rw [List.mem_singleton] at he
      subst he
      simp [ceR] at hd
      rcases hd with rfl | rfl | rfl | rfl <;> rfl
  · by_cases e : i = s.cells.length
    · subst e
      rw [List.getElem?_append_right (by omega), hRl, get2 hi, oCe, bv, bf, hfr]
      simp
    · have hi2 : i < s.cells.length := by rw [hlen] at hi; omega
      rw [List.getElem?_append_left (by omega), hR3 i hi2, get1 i hi2 hi, oCe, oCe, bo _ (by simp) (nocv hi2), bo _ (by simp) (nocf hi2)]
  · rw [t3 i hi, oTh, oTh, bo (.tf i) (by simp) (fun e => e)]; rfl
  · by_cases e : i = s.cells.length
    · subst e; rw [get2 hi, bv]; exact hV
    · have hi2 : i < s.cells.length := by rw [hlen] at hi; omega
      rw [get1 i hi2 hi, k2 (.cv i) hi2 (by simp) (nocv hi2)]; exact h.cv i hi2
  · by_cases e : i = s.cells.length
    · subst e; rw [get2 hi, bf, hfr]
      obtain ⟨FR, f1, f2⟩ := hF
      exact ⟨⟨FR, f1, f2, fun j hj => by simp at hj⟩, fun j hj => by simp at hj, fun j hj => by simp at hj⟩
    · have hi2 : i < s.cells.length := by rw [hlen] at hi; omega
      rw [get1 i hi2 hi]
      exact (h.cf i hi2).move (k2 (.cf i) hi2 (by simp) (nocf hi2)) (fun j hj => kk (.cr i j) (live_cr hi2 hj) (by simp) (nocr hi2)) fun j hj => kk (.ct i j) (live_ct hi2 hj) (by simp) (noct hi2)
  · exact (h.tf i hi).move (k2 (.tf i) hi (by simp) (fun e => e)) (fun j hj => kk (.tr i j) (live_tr hi hj) (by simp) (fun e => e)) fun j hj => kk (.tt i j) (live_tt hi hj) (by simp) (fun e => e)
  · by_cases c1 : x = .c
    · by_cases c2 : y = .c
      · rw [c1, c2]
      · subst c1
        rw [bc] at e
        rcases hB y hy c2 with rfl | rfl | ⟨g1, g2⟩
        · rw [bv] at e; exact absurd e hn.1
        · rw [bf] at e; exact absurd e hn.2
        · rw [bo y c2 g2] at e; exact absurd e.symm (hk y g1 c2).2.1
    · by_cases c2 : y = .c
      · subst c2
        rw [bc] at e
        rcases hB x hx c1 with rfl | rfl | ⟨g1, g2⟩
        · rw [bv] at e; exact absurd e.symm hn.1
        · rw [bf] at e; exact absurd e.symm hn.2
        · rw [bo x c1 g2] at e; exact absurd e (hk x g1 c1).2.1
      · rcases hB x hx c1 with rfl | rfl | ⟨g1, g2⟩ <;> rcases hB y hy c2 with rfl | rfl | ⟨g3, g4⟩
        · rfl
        · rw [bv, bf] at e; exact absurd e hvf
        · rw [bv, bo y c2 g4] at e; exact absurd e.symm (hk y g3 c2).2.2.1
        · rw [bv, bf] at e; exact absurd e.symm hvf
        · rfl
        · rw [bf, bo y c2 g4] at e; exact absurd e.symm (hk y g3 c2).2.2.2
        · rw [bv, bo x c1 g2] at e; exact absurd e (hk x g1 c1).2.2.1
        · rw [bf, bo x c1 g2] at e; exact absurd e (hk x g1 c1).2.2.2
        · rw [bo x c1 g2, bo y c2 g4] at e; exact h.inj x y g1 g3 e
  · by_cases c1 : x = .c
    · subst c1; rw [bc]; exact hlo.1
    · rcases hB x hx c1 with rfl | rfl | ⟨g1, g2⟩
      · rw [bv]; exact hlo.2.1
      · rw [bf]; exact hlo.2.2
      · rw [bo x c1 g2]; exact h.lo x g1
def atCv (A : Ad → Nat) (i v : Nat) : Ad → Nat := withC A i v (A (.cf i)) (fun j => A (.cr i j)) (fun j => A (.ct i j))
theorem atCv_ne {i v : Nat} {x : Ad} (h : x ≠ .cv i) : atCv A i v x = A x := by
  unfold atCv
  by_cases hx : ofC i x
  · cases x <;> simp only [ofC] at hx <;> subst hx
    · exact absurd rfl h
    · simp [withC]
    · simp [withC]
    · simp [withC]
  · exact withC_out hx
theorem atCv_self {i v : Nat} : atCv A i v (.cv i) = v := by simp [atCv, withC]
theorem atCv_or {i v : Nat} {c' : GCell} (hi : i < s.cells.length) (hf : c'.frames = s.cells[i].frames) {x : Ad} (hx : Live (s.setC i c') x) : (x = .cv i ∧ atCv A i v x = v) ∨ (x ≠ .cv i ∧ Live s x ∧ atCv A i v x = A x) := by
  by_cases h : x = .cv i
  · subst h; exact .inl ⟨rfl, atCv_self⟩
  · exact .inr ⟨h, live_lessC hi (by rw [hf]; exact Nat.le_refl _) hx, atCv_ne h⟩
theorem OwnS.cVals (h : OwnS H lo A s) {i : Nat} (hi : i < s.cells.length) {c' : GCell} (hf : c'.frames = s.cells[i].frames) (v : Nat) (hk : ∀ x, Live s x → x ≠ .cv i → x ≠ .c → H' (A x) = H (A x)) {R : List (List C)} (hR : H (A .c) = some ⟨.c 75, 4, R⟩)
    (hR' : H' (A .c) = some ⟨.c 75, 4, R.set i (ceR (.own v 2 c'.vals.length) (.own (A (.cf i)) 8 c'.frames.length) c')⟩) (hV : ∃ ys, H' v = some (valBlk (c'.vals ++ ys))) (hv : ∀ x, Live s x → x ≠ .cv i → A x ≠ v) (hlo : lo ≤ v) : OwnS H' lo (atCv A i v) (s.setC i c') := by
  have lr : ∀ j, j < c'.frames.length → Live s (.cr i j) := fun j hj => live_cr hi (by rw [← hf]; exact hj)
  have lt : ∀ j, j < c'.frames.length → Live s (.ct i j) := fun j hj => live_ct hi (by rw [← hf]; exact hj)
  have lf : Live s (.cf i) := hi
  refine h.newC hi v (A (.cf i)) (fun j => A (.cr i j)) (fun j => A (.ct i j)) (fun x hx hn hc => hk x hx (fun e => hn (by rw [e]; exact rfl)) hc) hR hR' hV ?_ (fun e => hv (.cf i) lf (by simp) e.symm) (fun j hj => ⟨fun e => hv _ (lr j hj) (by simp) e.symm, fun e => hv _ (lt j hj) (by simp) e.symm⟩)
    ⟨fun j hj => ⟨h.ne lf (lr j hj) (by simp), h.ne lf (lt j hj) (by simp)⟩, fun j k hj hk => h.ne (lr j hj) (lt k hk) (by simp), fun j k hj hk e => by have := h.inj _ _ (lr j hj) (lr k hk) e; simpa using this, fun j k hj hk e => by have := h.inj _ _ (lt j hj) (lt k hk) e; simpa using this⟩
    (fun x hx hn => ⟨hv x hx (fun e => hn (by rw [e]; exact rfl)), h.ne hx lf (fun e => hn (by rw [e]; exact rfl)), fun j hj => ⟨h.ne hx (lr j hj) (fun e => hn (by rw [e]; exact rfl)), h.ne hx (lt j hj) (fun e => hn (by rw [e]; exact rfl))⟩⟩)
    ⟨hlo, h.lo _ lf, fun j hj => ⟨h.lo _ (lr j hj), h.lo _ (lt j hj)⟩⟩
  rw [hf]
  exact (h.cf i hi).low (hk (.cf i) lf (by simp) (by simp)) (fun j hj => hk _ (live_cr hi hj) (by simp) (by simp)) fun j hj => hk _ (live_ct hi hj) (by simp) (by simp)
theorem oRow_cv {i v : Nat} {c' : GCell} : oRow (atCv A i v) (s.setC i c') = oRow A s := by simp [oRow, atCv, withC, GState.setC]
end
abbrev hpO (nS : Nat) : D := .agg [.ptr nS 8 0 0]
abbrev stB (A : Ad → Nat) (s : GState) : Blk := ⟨.c 29, 8, [oRow A s]⟩
theorem CsS.atP {H : Hp} {N : Nat → Prop} {n k : Nat} {t : BT} {cs : List C} {ds : List Dt} (hx : H n = some ⟨t, k, [cs]⟩) (hn : N n) (h : CsS H N cs ds) : Shw H N (.ptr n k 0 0) (.at_ true ds) := by
  refine .ptr (fun j => (cs[j]?).getD .any) hn hx rfl (fun j d hd => ?_) (fun j d hd => ?_)
  · obtain ⟨c, h1, -⟩ := (CsS.get h).2 j d hd
    simp [nth2, h1]
  · obtain ⟨c, h1, h2⟩ := (CsS.get h).2 j d hd
    simpa [h1] using h2
section
variable {H : Hp} {lo nx nS : Nat} {A : Ad → Nat} {s : GState}
theorem heap_shw (hO : OwnS H lo A s) (hS : H nS = some (stB A s)) : CsShw H (fun _ => True) [.ptr nS 8 0 0] [.d (.at_ true (eState s))] := ⟨⟨_, rfl, CsS.atP hS trivial (hO.shw fun _ _ => trivial)⟩, trivial⟩
theorem val_shw (v : GVal) : CsShw H (fun _ => True) [.d (eI v.kind), .d (eI v.n)] [.d (eI v.kind), .d (eI v.n)] := ⟨⟨_, rfl, .d rfl⟩, ⟨_, rfl, .d rfl⟩, trivial⟩
theorem heapOfO_ic (hSol : HSol H) (hO : OwnS H lo A s) (hS : H nS = some (stB A s)) (v : GVal) (hv : RefOk s v) {K : D → Hp → Nat → Prop} (h5 : v.kind = 5 → ∀ nx', nx ≤ nx' → K (.one (.ptr (A .c) 4 v.n.toNat 0)) H nx') (h0 : v.kind ≠ 5 → ∀ nx', nx ≤ nx' → K (.one (.d (.lit (.pointer none)))) H nx') :
    ICall Tryz.prog 80 [hpO nS, aD (eVal v)] H nx K := by
  refine ICall.fresh (by kernel_rfl) fun hfr => ICall.keepH hfr ?_
  obtain ⟨k, n⟩ := v
  have n1 : ∀ x, Live s x → A x < nx := fun x hx => hO.lt hfr hx
  have pS := fresh_lt hfr hS
  have m1 := n1 .c trivial
  obtain ⟨R, r1, r2, r3⟩ := hO.ce
  have e1 : ¬ nS = nx := by omega
  have e2 : ¬ nS = nx + 1 := by omega
  have e3 : ¬ A .c = nx := by omega
  have e4 : ¬ A .c = nx + 1 := by omega
  rw [stB, oRow] at hS
  refine fni_ok [0,1,2,3,4,7] [(3, [0,1,3,7,15,0,32,127,255], (.seg 0 (.seg 1 (.seg 2 (.seg 3 (.seg 4 (.seg 5 (.seg 6 (.seg 7 (.seg 8 .last))))))))))] Tryz.func80 rfl (by kernel_rfl) rfl rfl rfl rfl (by kernel_rfl) ?_
  simp [Nat.add_assoc]
  by_cases c5 : k = 5
  · subst c5
    obtain ⟨hp, hl⟩ := hv rfl
    simp only at hp hl
    obtain ⟨r4, r5⟩ := List.getElem?_eq_some_iff.1 (r3 n.toNat (by omega))
    simp [hS, r1, r4, r5, e1, e2, e3, e4, hp, hl]
    exact ⟨HSol.set (HSol.set hSol (by simp)) (by simp), fun i hi => by rw [if_neg (by omega), if_neg (by omega)], h5 rfl _ (by omega)⟩
  · simp [c5]
    exact ⟨HSol.set (HSol.set hSol (by simp)) (by simp), fun i hi => by rw [if_neg (by omega), if_neg (by omega)], h0 c5 _ (by omega)⟩
end
theorem shpz_isD (l zs : List Shp) : 2 = 2 ∧ l.length ≤ (List.map (fun x => [C.d (eI x.1), C.d (eI x.2)]) l ++ List.map (fun x => [C.d (eI x.1), C.d (eI x.2)]) zs).length ∧ ∀ x : List C, x ∈ List.take l.length (List.map (fun x => [C.d (eI x.1), C.d (eI x.2)]) l ++ List.map (fun x => [C.d (eI x.1), C.d (eI x.2)]) zs) → ∀ c : C, c ∈ x → c.isD = true :=
  ⟨rfl, by simp, fun x hx c hc => by
    rw [List.take_left' (by simp)] at hx
    obtain ⟨y, -, rfl⟩ := List.mem_map.1 hx
    simp at hc
    rcases hc with rfl | rfl <;> rfl⟩
theorem shpz_dt (l : List Shp) : List.map ((fun e => List.map C.dt e) ∘ fun x : Shp => [C.d (eI x.1), C.d (eI x.2)]) l = l.map eShape := by
  refine List.map_congr_left fun x _ => ?_
  simp [eShape]
end Go.Proofs.YtbphdcffpobcbaaGreatDoor
