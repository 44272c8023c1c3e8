/- Several texts in one. -/
import Derived.Test.YtbphdcffpobcbaaGreatDoorMd
import Derived.Test.YtbphdcffpobcbaaGreatDoorMe
import Derived.Test.YtbphdcffpobcbaaGreatDoorMj
import Derived.Test.YtbphdcffpobcbaaGreatDoorMka
import Derived.Test.YtbphdcffpobcbaaGreatDoorMkc
import Derived.Test.YtbphdcffpobcbaaGreatDoorMkf
set_option linter.unusedSimpArgs false
set_option linter.unusedVariables false
set_option maxRecDepth 100000
set_option maxHeartbeats 16000000
namespace Go.Proofs.YtbphdcffpobcbaaGreatDoor
open Go.RowKit Go
theorem DPure.args {P : Program} {f : FuncId} {ds ds' : List D} {K : D → List Blk → Prop} (hle : ∀ E w ι vs, RVs E w ι ds vs → RVs E w ι ds' vs) (h : DPure P f ds' K) : DPure P f ds K := ⟨h.1, fun F w vs h1 hgl h2 => h.2 F w vs h1 hgl (hle _ _ _ _ h2)⟩
def CsLe : List C → List C → Prop
  | [], [] => True
  | c :: cs, e :: es => (e = c ∨ (c = .d .emp ∧ e = .d (.sl true []))) ∧ CsLe cs es
  | _, _ => False
theorem RC.emp_sl {E : Env} {w : World} {ι : Nms} {v : Value} (h : RC E w ι (.d .emp) v) : RC E w ι (.d (.sl true [])) v := RC.less (c := .d .emp) (c' := .d (.sl _ [])) (ι := ι) h (.inr ⟨rfl, _, rfl⟩)
theorem CsLe.rcs {E : Env} {w : World} {ι : Nms} : ∀ {cs es : List C}, CsLe cs es → ∀ {vs : List Value}, RCs E w ι cs vs → RCs E w ι es vs
  | [], [], _, [], _ => trivial
  | c :: cs, e :: es, h, v :: vs, hv => ⟨by
      rcases h.1 with rfl | ⟨rfl, rfl⟩
      · exact hv.1
      · exact hv.1.emp_sl, CsLe.rcs h.2 hv.2⟩
  | [], [], _, _ :: _, hv => hv.elim
  | _ :: _, _ :: _, _, [], hv => hv.elim
  | [], _ :: _, h, _, _ => h.elim
  | _ :: _, [], h, _, _ => h.elim
theorem kindB_range {s : GState} {c : GCell} (h : kindB s c = true) : c.kind = 0 ∨ c.kind = 1 ∨ c.kind = 2 ∨ c.kind = 3 ∨ c.kind = 4 ∨ c.kind = 5 ∨ c.kind = 6 ∨ c.kind = 7 := by
  unfold kindB at h
  by_cases h0 : c.kind = 0; · omega
  by_cases h1 : c.kind = 1; · omega
  by_cases h2 : c.kind = 2; · omega
  by_cases h3 : c.kind = 3; · omega
  by_cases h4 : c.kind = 4; · omega
  by_cases h5 : c.kind = 5; · omega
  by_cases h6 : c.kind = 6; · omega
  by_cases h7 : c.kind = 7; · omega
  rw [if_neg h0, if_neg h1, if_neg h2, if_neg h3, if_neg h4, if_neg h5, if_neg h6, if_neg h7] at h
  cases h
theorem kindWord_ok (s : GState) (hq : cellsQ wordsT s = 0) (v : GVal) (hv : fitsB s v = true) {K : D → List Blk → Prop} (h : K (dI (kindW s v)) []) : DPure Tryz.prog 37 [aD (eState s), aD (eVal v)] K := by
  have hr := fits_ref hv
  have hki := fits_kind hv
  obtain ⟨k, n⟩ := v
  simp only at hki
  refine fn_ok [0,1,2,3,4,7,10] [] Tryz.func37 rfl (by kernel_rfl) rfl rfl rfl rfl (by kernel_rfl) ?_
  simp
  by_cases e6 : k = 6
  · subst e6
    simp [kindW] at h ⊢
    exact h
  by_cases e5 : k = 5
  · subst e5
    obtain ⟨hp, hl⟩ := hr rfl
    simp only at hp hl
    have hk := kindB_range (cellB_parts (heap_cell hq (n := n.toNat) (by omega)).1).1
    rw [← cellAt_eq hp hl] at hk
    simp only [kindW, if_true] at h
    have hg := cell_get hp hl
    generalize cellAt s n = c at *
    obtain ⟨g1, g2⟩ := List.getElem?_eq_some_iff.1 hg
    simp [hp, hl, hg, g1, g2]
    rcases hk with e | e | e | e | e | e | e | e <;> (simp [e] at h ⊢; exact h)
  · simp only [kindW, e5, e6, if_false] at h
    simp [e5, e6, wrap_id (show (-9223372036854775808 : Int) ≤ 8 + k by omega) (show 8 + k ≤ 9223372036854775807 by omega)]
    exact h
theorem own_text {s : GState} (hq : cellsQ wordsT s = 0) {k : Nat} (hk : k < 19) : s.texts.getD k ByteArray.empty = wordsT.getD k ByteArray.empty := by
  obtain ⟨-, -, h3, -⟩ := cellsQ_iff.1 hq
  simp only [wordsB, Bool.and_eq_true, decide_eq_true_eq] at h3
  have h4 := h3.1
  have hw : wordsT.length = 19 := by kernel_rfl
  have : (s.texts.take wordsT.length)[k]? = wordsT[k]? := by rw [h4]
  rw [List.getElem?_take, if_pos (by omega)] at this
  rw [List.getD_eq_getElem?_getD, List.getD_eq_getElem?_getD, this]
theorem shr_at {m k : Nat} (hk : k ≤ 60) : (m : Int).fdiv (2 ^ min k IntKind.u64.bits) = ((m / 2 ^ k : Nat) : Int) := by
  rw [show IntKind.u64.bits = 64 from rfl, Nat.min_eq_left (by omega), Int.fdiv_eq_ediv_of_nonneg _ (by exact Int.le_of_lt (Int.pow_pos (by decide)))]
  simp
theorem digits_ext {d : Nat} (h : d < 16) : (⟨#[48, 49, 50, 51, 52, 53, 54, 55, 56, 57, 97, 98, 99, 100, 101, 102]⟩ : ByteArray).extract d (d + 1) = ⟨#[dig d]⟩ := by
  have : ∀ d : Fin 16, (⟨#[48, 49, 50, 51, 52, 53, 54, 55, 56, 57, 97, 98, 99, 100, 101, 102]⟩ : ByteArray).extract d.val (d.val + 1) = ⟨#[dig d.val]⟩ := by decide +kernel
  exact this ⟨d, h⟩
theorem textIn_ok (s : GState) (hq : cellsQ wordsT s = 0) (v : GVal) (hv : fitsB s v = true) {K : D → List Blk → Prop} (h : K (dS (textW s v)) []) : DPure Tryz.prog 36 [aD (eState s), aD (eVal v)] K := by
  obtain ⟨g1, g2, g3, g4⟩ := fits_kind hv
  have g5 := kindW_in hv
  have g6 := texts_len hq
  have g7 := cells_text hv
  obtain ⟨k, n⟩ := v
  simp only at g1 g2 g3 g4 g7
  refine fn_ok [0,1,2,3,4,5,6,7,9,10,12,19,24,27,44] [(18, [0,0,0,7,15,31,63,127,255], (.seg 1 (.seg 2 (.eff 0 [1, 2] (.eff 3 [] (.seg 4 (.seg 5 (.seg 6 (.seg 7 (.seg 8 .last))))))))))] Tryz.func36 rfl (by kernel_rfl) rfl rfl rfl rfl (by kernel_rfl) ?_
  simp
  by_cases c0 : k = 0
  · subst c0
    simp [textW] at h ⊢
    exact h
  by_cases c1 : k = 1
  · subst c1
    simp [textW] at h ⊢
    rcases g4 rfl with rfl | rfl
    · simp at h ⊢; exact h
    · simp at h ⊢; exact h
  by_cases c2 : k = 2
  · subst c2
    simp [textW] at h ⊢
    refine itoa_ok n (g3 rfl) ?_
    simp
    exact h
  by_cases c3 : k = 3
  · subst c3
    simp [textW] at h ⊢
    obtain ⟨w1, w2⟩ := wrapU n
    obtain ⟨m, hm⟩ : ∃ m : Nat, IntKind.u64.wrap n = m := ⟨(IntKind.u64.wrap n).toNat, by omega⟩
    rw [hm] at h w2
    simp only [Int.toNat_natCast] at h
    refine loop_ok (ks := [0,1,2,3,4,5,6,7,9,10,12,19,24,27,44]) (pl := [(18, [0,0,0,7,15,31,63,127,255], (.seg 1 (.seg 2 (.eff 0 [1, 2] (.eff 3 [] (.seg 4 (.seg 5 (.seg 6 (.seg 7 (.seg 8 .last))))))))))]) (n0 := 60) (fun x : {j : Nat // j ≤ 16} => [(5, dS ⟨(hexF x.1 (m / 16 ^ (16 - x.1))).toArray⟩), (6, dI (60 - 4 * (x.1 : Int)))]) (fun x => 17 - x.1) ⟨0, by omega⟩ rfl (by kernel_rfl) (Wk.sub (by simp [hexF])) ?_
    rintro ⟨j, hj⟩
    by_cases h1 : j < 16
    · have h1' : 4 * (j : Int) ≤ 60 := by omega
      obtain ⟨M, hM⟩ : ∃ M, M = m / 16 ^ (15 - j) := ⟨_, rfl⟩
      have hMl : M < 18446744073709551616 := by rw [hM]; exact Nat.lt_of_le_of_lt (Nat.div_le_self _ _) (by omega)
      have hsh : (m : Int).fdiv (2 ^ min (60 - 4 * (j : Int)).toNat IntKind.u64.bits) = (M : Int) := by
        rw [show (60 - 4 * (j : Int)).toNat = 60 - 4 * j by omega, shr_at (by omega), hM]
        congr 2
        rw [show (16 : Nat) = 2 ^ 4 from rfl, ← Nat.pow_mul]
        congr 1
        omega
      have hand : IntKind.u64.wrap (((M % 2 ^ IntKind.u64.bits : Nat) &&& (15 % 2 ^ IntKind.u64.bits) : Nat) : Int) = ((M % 16 : Nat) : Int) := and_15 hMl
      have hdm : M % 16 < 16 := Nat.mod_lt _ (by omega)
      obtain ⟨d, hd⟩ : ∃ d, d = M % 16 := ⟨_, rfl⟩
      rw [← hd] at hand hdm
      have hstep : (⟨(hexF j (m / 16 ^ (16 - j))).toArray⟩ : ByteArray) ++ ⟨#[dig d]⟩ = ⟨(hexF (j + 1) (m / 16 ^ (16 - (j + 1)))).toArray⟩ := by
        rw [show 16 - (j + 1) = 15 - j by omega, ← hM, hexF_step, ← hd, show 16 - j = (15 - j) + 1 by omega, Nat.pow_succ, ← Nat.div_div_eq_div_mul, ← hM]
        apply ByteArray.ext
        simp
      have hsz : (⟨(hexF j (m / 16 ^ (16 - j))).toArray⟩ : ByteArray).size = j := by simp [ByteArray.size, hexF_len]
      generalize (⟨(hexF j (m / 16 ^ (16 - j))).toArray⟩ : ByteArray) = B at *
      have hext := digits_ext hdm
      have hz16 : (⟨#[48, 49, 50, 51, 52, 53, 54, 55, 56, 57, 97, 98, 99, 100, 101, 102]⟩ : ByteArray).size = 16 := rfl
      have hu1 : IntKind.u64.wrap ((d : Int) + 1) = ((d + 1 : Nat) : Int) := by rw [show (d : Int) + 1 = ((d + 1 : Nat) : Int) by omega]; exact u64_id (by omega)
      have hw4 : IntKind.i64.wrap (60 - 4 * (j : Int) - 4) = 60 - 4 * ((j : Int) + 1) := by rw [wrap_id (by omega) (by omega)]; omega
      have ht1 : ((d : Int) + 1).toNat = d + 1 := by omega
      have hmn : min (d + 1) 16 - d = 1 := by omega
      have hjz : j + (⟨#[dig d]⟩ : ByteArray).size ≤ 9223372036854775807 := by rw [show (⟨#[dig d]⟩ : ByteArray).size = 1 from rfl]; omega
      simp [h1', hm, hsh, hand, hu1, hz16, ht1, hmn, hsz, hext, hstep, hjz]
      refine ⟨by omega, by omega, j + 1, by omega, by omega, Wk.sub (by simp [hw4])⟩
    · obtain rfl : j = 16 := by omega
      have z1 : (⟨#[35]⟩ : ByteArray).size = 1 := rfl
      have z2 : (⟨(hexF 16 m).toArray⟩ : ByteArray).size = 16 := by simp [ByteArray.size, hexF_len]
      have z3 : (⟨#[35]⟩ ++ ⟨(hexF 16 m).toArray⟩ : ByteArray) = ⟨(35 :: hexF 16 m).toArray⟩ := by
        apply ByteArray.ext
        simp
      simp [z1, z2, z3]
      exact h
  by_cases c4 : k = 4
  · subst c4
    obtain ⟨hp, hl⟩ := g7 rfl
    simp [textW] at h ⊢
    have hl' : n.toNat < s.texts.length := by omega
    have e : s.texts.getD n.toNat ByteArray.empty = s.texts[n.toNat] := by simp [List.getD_eq_getElem?_getD, hl']
    simp [List.getD_eq_getElem?_getD, hl'] at h
    simp [hp, hl, hl']
    exact h
  simp only [textW, c0, c1, c2, c3, c4, if_false] at h
  simp [c0, c1, c2, c3, c4]
  refine ownWords_ok ?_
  simp
  refine kindWord_ok s hq ⟨k, n⟩ hv ?_
  obtain ⟨q, hqe⟩ : ∃ q : Nat, kindW s ⟨k, n⟩ = q := ⟨(kindW s ⟨k, n⟩).toNat, by omega⟩
  rw [hqe] at h g5 ⊢
  rw [Int.toNat_natCast, own_text hq (by omega)] at h
  have wl : wordsT.length = 19 := by kernel_rfl
  have hq2 : q < 19 := by omega
  obtain ⟨hql, hw1⟩ : ∃ h : q < wordsT.length, wordsT[q] = wordsT.getD q ByteArray.empty := ⟨by omega, by rw [List.getD_eq_getElem?_getD, List.getElem?_eq_getElem (by omega)]; rfl⟩
  have hsz : (wordsT.getD q ByteArray.empty).size ≤ 200 := by
    rw [← own_text hq hq2, List.getD_eq_getElem?_getD, List.getElem?_eq_getElem (by omega)]
    exact txt_len hq (List.getElem_mem _)
  generalize wordsT.getD q ByteArray.empty = T at *
  have z1 : (⟨#[91]⟩ : ByteArray).size = 1 := rfl
  have z2 : (⟨#[93]⟩ : ByteArray).size = 1 := rfl
  have z3 : 1 + T.size ≤ 9223372036854775807 := by omega
  have z4 : 1 + T.size + 1 ≤ 9223372036854775807 := by omega
  simp [hql, hw1, ByteArray.size_append, z1, z2, z3, z4]
  exact h

end Go.Proofs.YtbphdcffpobcbaaGreatDoor
