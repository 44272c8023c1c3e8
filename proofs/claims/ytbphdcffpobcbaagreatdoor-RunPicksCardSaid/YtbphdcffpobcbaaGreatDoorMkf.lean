/- Several texts in one. -/
import Derived.Test.YtbphdcffpobcbaaGreatDoorMke
set_option linter.unusedSimpArgs false
set_option linter.unusedVariables false
set_option maxRecDepth 100000
set_option maxHeartbeats 16000000
namespace Go.Proofs.YtbphdcffpobcbaaGreatDoor
open Go.RowKit Go
structure HcS where
  k : Nat
  H : Hp
  nx : Nat
structure HcI (M : Hp) (n0 : Nat) (s : GState) (args : List GVal) (f : List UInt8) (x : HcS) : Prop where
  k : x.k ≤ args.length
  le : n0 ≤ x.nx
  low : ∀ i, i < n0 → x.H i = M i
  sol : HSol x.H
  all : ∀ (i : Nat) (h : i < x.k), argB s (f.getD i 0) (valAt args i) = true
theorem wrapU (n : Int) : 0 ≤ IntKind.u64.wrap n ∧ IntKind.u64.wrap n < 18446744073709551616 := by
  have e : IntKind.u64.wrap n = n % 18446744073709551616 := rfl
  omega
theorem fits_kind {s : GState} {v : GVal} (h : fitsB s v = true) : 0 ≤ v.kind ∧ v.kind ≤ 6 ∧ (v.kind = 2 → InI v.n) ∧ (v.kind = 1 → v.n = 0 ∨ v.n = 1) := by
  simp only [fitsB, Bool.and_eq_true] at h
  have h1 := h.1
  unfold rightB at h1
  by_cases e0 : v.kind = 0
  · exact ⟨by omega, by omega, fun e => by omega, fun e => by omega⟩
  rw [if_neg e0] at h1
  by_cases e1 : v.kind = 1
  · rw [if_pos e1] at h1
    simp at h1
    exact ⟨by omega, by omega, fun e => by omega, fun e => by omega⟩
  rw [if_neg e1] at h1
  by_cases e2 : v.kind = 2
  · rw [if_pos e2] at h1
    simp at h1
    refine ⟨by omega, by omega, fun e => ?_, fun e => by omega⟩
    unfold InI
    omega
  rw [if_neg e2] at h1
  by_cases e3 : v.kind = 3
  · exact ⟨by omega, by omega, fun e => by omega, fun e => by omega⟩
  rw [if_neg e3] at h1
  by_cases e4 : v.kind = 4 ∨ v.kind = 5
  · exact ⟨by omega, by omega, fun e => by omega, fun e => by omega⟩
  rw [if_neg e4] at h1
  by_cases e6 : v.kind = 6
  · exact ⟨by omega, by omega, fun e => by omega, fun e => by omega⟩
  rw [if_neg e6] at h1
  cases h1
theorem kindW_in {s : GState} {v : GVal} (h : fitsB s v = true) : 8 ≤ kindW s v ∧ kindW s v ≤ 18 := by
  have := fits_kind h
  unfold kindW
  split
  · split
    · omega
    · split
      · omega
      · split
        · omega
        · split
          · omega
          · split
            · omega
            · split <;> omega
  · split <;> omega
theorem texts_len {s : GState} (h : cellsQ wordsT s = 0) : 19 ≤ s.texts.length := by
  obtain ⟨-, -, h3, -⟩ := cellsQ_iff.1 h
  simp only [wordsB, Bool.and_eq_true, decide_eq_true_eq] at h3
  have := congrArg List.length h3.1
  rw [List.length_take] at this
  have hw : 19 ≤ wordsT.length := by decide
  omega
theorem txt_len {s : GState} (h : cellsQ wordsT s = 0) {t : ByteArray} (ht : t ∈ s.texts) : t.size ≤ 200 := by
  obtain ⟨h1, -⟩ := cellsQ_iff.1 h
  simp only [heapLarge, Bool.or_eq_false_iff, List.any_eq_false, decide_eq_true_eq, decide_eq_false_iff_not] at h1
  have := h1.1.2 t ht
  omega
theorem heapText_ok (s : GState) (hq : cellsQ wordsT s = 0) (v : GVal) (hv : fitsB s v = true) {K : D → List Blk → Prop} (h : K (dS (textW s v)) []) : DPure Tryz.prog 46 [hpD true s, aD (eVal v)] K := by
  obtain ⟨g1, g2, g3, g4⟩ := fits_kind hv
  have g5 := kindW_in hv
  have g6 := texts_len hq
  have g7 := cells_text hv
  obtain ⟨k, n⟩ := v
  simp only at g1 g2 g3 g4 g7
  refine fn_ok [0,1,2,3,4,5,7,8,10,16,21,34] [(12, [0,1,3,7,15,0,32,127,255,511], (.seg 0 (.seg 1 (.seg 2 (.seg 3 (.seg 4 (.seg 5 (.seg 6 (.seg 7 (.seg 8 (.seg 9 .last))))))))))), (13, [0,1,3,7,15,0,0,96,255,511,1023,2047,4095], (.seg 0 (.seg 1 (.seg 2 (.seg 3 (.seg 4 (.seg 5 (.seg 6 (.eff 7 [0, 1, 2, 3, 4] (.seg 8 (.seg 9 (.seg 10 (.seg 11 (.seg 12 .last))))))))))))))] Tryz.func46 rfl (by kernel_rfl) rfl rfl rfl rfl (by kernel_rfl) ?_
  simp
  by_cases c0 : k = 0
  · subst c0
    simp [textW] at h ⊢
    exact h
  by_cases c1 : k = 1
  · subst c1
    simp [textW] at h ⊢
    refine fmtBool_ok _ ?_
    simp
    by_cases n1 : n = 1
    · simp [n1] at h ⊢; exact h
    · simp [n1] at h ⊢; exact h
  by_cases c2 : k = 2
  · subst c2
    simp [textW] at h ⊢
    refine itoa_ok n (g3 rfl) ?_
    simp
    exact h
  by_cases c3 : k = 3
  · subst c3
    simp [textW] at h ⊢
    obtain ⟨w1, w2⟩ := wrapU n
    obtain ⟨m, hm⟩ : ∃ m : Nat, IntKind.u64.wrap n = m := ⟨(IntKind.u64.wrap n).toNat, by omega⟩
    rw [hm] at h w2 ⊢
    simp only [Int.toNat_natCast] at h
    refine fmtUint_ok m (by omega) ?_
    obtain ⟨p1, p2⟩ := hex_pad 15 m (by omega)
    have p3 : 0 < (hexD m).length := by
      rw [hexD]
      split <;> simp
    have hz : (⟨(hexD m).toArray⟩ : ByteArray).size = (hexD m).length := by simp [ByteArray.size]
    generalize hexD m = hd at *
    have hw : IntKind.i64.wrap (16 - (hd.length : Int)) = ((16 - hd.length : Nat) : Int) := by rw [wrap_id (by omega) (by omega)]; omega
    simp [hz, hw]
    refine repeat_ok (16 - hd.length) (by omega) ?_
    simp
    rw [← p2] at h
    have z1 : (⟨#[35]⟩ : ByteArray).size = 1 := rfl
    have z2 : (⟨Array.replicate (16 - hd.length) 48⟩ : ByteArray).size = 16 - hd.length := by simp [ByteArray.size]
    have z3 : 1 + (16 - hd.length) ≤ 9223372036854775807 := by omega
    have z4 : 1 + (16 - hd.length) + hd.length ≤ 9223372036854775807 := by omega
    simp [ByteArray.size_append, hz, z1, z2, z3, z4]
    have e : ((⟨#[35]⟩ ++ ⟨Array.replicate (16 - hd.length) 48⟩ : ByteArray) ++ ⟨hd.toArray⟩) = ⟨(35 :: (List.replicate (15 + 1 - hd.length) 48 ++ hd)).toArray⟩ := by
      apply ByteArray.ext
      simp [ByteArray.data_append]
    rw [e]
    exact h
  by_cases c4 : k = 4
  · subst c4
    have hr := g7 rfl
    have hl : n.toNat < s.texts.length := by omega
    have e : s.texts.getD n.toNat ByteArray.empty = s.texts[n.toNat] := by simp [List.getD_eq_getElem?_getD, hl]
    simp only [textW] at h
    simp at h
    rw [List.getElem?_eq_getElem hl, Option.getD_some] at h
    simp [hr.1, hr.2]
    exact h
  · simp [c0, c1, c2, c3, c4]
    refine ⟨[hpD true s, aD (eVal ⟨k, n⟩)], ⟨⟨⟨_, rfl, .d (by simp)⟩, trivial⟩, val_shw ⟨k, n⟩, trivial⟩, heapKind_ok true s ⟨k, n⟩ (fits_ref hv) (by simp only; omega) ⟨by simp, ?_⟩⟩
    have hl : (kindW s ⟨k, n⟩).toNat < s.texts.length := by omega
    have q1 : 0 ≤ kindW s ⟨k, n⟩ := by omega
    have q2 : kindW s ⟨k, n⟩ < (s.texts.length : Int) := by omega
    rw [textW, if_neg c0, if_neg c1, if_neg c2, if_neg c3, if_neg c4, List.getD_eq_getElem?_getD, List.getElem?_eq_getElem hl, Option.getD_some] at h
    generalize kindW s ⟨k, n⟩ = q at *
    simp [q1, q2]
    have hsz : s.texts[q.toNat].size ≤ 200 := txt_len hq (List.getElem_mem hl)
    generalize s.texts[q.toNat] = T at *
    have z1 : (⟨#[91]⟩ : ByteArray).size = 1 := rfl
    have z2 : (⟨#[93]⟩ : ByteArray).size = 1 := rfl
    have z3 : 1 + T.size ≤ 9223372036854775807 := by omega
    have z4 : 1 + T.size + 1 ≤ 9223372036854775807 := by omega
    simp [ByteArray.size_append, z1, z2, z3, z4]
    exact h
def DsMx (H : Hp) : List D → List D → Prop
  | [], [] => True
  | d :: ds, e :: es => (DShw H (fun _ => True) d e ∨ ∃ x, d = .one (.d x) ∧ e = d) ∧ DsMx H ds es
  | _, _ => False
theorem DsMx.rvs {F B : Nat → Prop} {w : World} {ι : Nms} {H : Hp} (hh : ∀ n x, H n = some x → RB ⟨F, B⟩ w ι n x) (hB : ∀ b, B b → b < w.heap.size) : ∀ {ds es : List D}, DsMx H ds es → ∀ {vs : List Value}, RVs ⟨F, B⟩ w ι ds vs → RVs ⟨giv F ι H (fun _ => True), fun b => b < w.heap.size⟩ w (fun _ => none) es vs
  | [], [], _, [], _ => by rw [RVs]; trivial
  | d :: ds, e :: es, h, v :: vs, hv => by
    rw [DsMx] at h
    rw [RVs] at hv ⊢
    refine ⟨?_, DsMx.rvs hh hB h.2 hv.2⟩
    rcases h.1 with h1 | ⟨x, rfl, rfl⟩
    · exact RV.keep (show Env.le ⟨giv F ι H (fun _ => True), Go.Proofs.YtbphdcffpobcbaaGreatDoor.noB⟩ ⟨giv F ι H (fun _ => True), fun b => b < w.heap.size⟩ w w from ⟨fun _ h => h, fun _ h => h.elim, fun _ _ => rfl, fun _ _ => rfl⟩) (Nms.le_refl _) (DShw.rv (ι' := fun _ => none) hh h1 hv.1)
    · have h2 := hv.1
      rw [RV] at h2 ⊢
      rw [RC] at h2 ⊢
      exact RD.keep h2 (show Env.le ⟨F, B⟩ ⟨giv F ι H (fun _ => True), fun b => b < w.heap.size⟩ w w from ⟨fun _ h => .inl h, hB, fun _ _ => rfl, fun _ _ => rfl⟩)
  | [], _ :: _, h, _, _ => h.elim
  | _ :: _, [], h, _, _ => h.elim
  | [], [], _, _ :: _, hv => by simp [RVs] at hv
  | _ :: _, _ :: _, _, [], hv => by simp [RVs] at hv
end Go.Proofs.YtbphdcffpobcbaaGreatDoor
