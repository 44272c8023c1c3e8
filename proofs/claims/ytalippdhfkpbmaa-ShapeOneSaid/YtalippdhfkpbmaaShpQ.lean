/- Shapes, plainly: what a name more does to a list of shapes. -/
import Derived.Test.YtalippdhfkpbmaaShpP
namespace Go.Proofs.Ytalippdhfkpbmaa
open Go.RowKit
theorem getD_app {α : Type} {L X : List α} {i : Nat} (d : α) (h : i < L.length) : (L ++ X).getD i d = L.getD i d := by
  simp [List.getD, List.getElem?_append_left h]
theorem getD_last {α : Type} {L : List α} {x : α} (d : α) : (L ++ [x]).getD L.length d = x := by
  simp [List.getD]
theorem fst_app {L X : List Shp} {i : Nat} (h : i < L.length) : fstD (L ++ X) i = fstD L i := by unfold fstD; rw [getD_app _ h]
theorem snd_app {L X : List Shp} {i : Nat} (h : i < L.length) : sndD (L ++ X) i = sndD L i := by unfold sndD; rw [getD_app _ h]
theorem Ahead.app {L X : List Shp} {s : Nat} (h : Ahead L s) (hs : s < L.length) : Ahead (L ++ X) s := fun j h0 h1 => by
  rw [fst_app (by omega)]
  exact h j h0 h1
theorem names_app {L X : List Shp} : ∀ {s : Nat}, Ahead L s → s < L.length → namesP (L ++ X) s = namesP L s := by
  intro s
  induction s using Nat.strongRecOn with
  | _ s ih =>
    intro h hs
    by_cases h0 : s = 0
    · subst h0; rfl
    · have hu := h s (by omega) (Nat.le_refl _)
      rw [namesP_step (h.app hs) (by omega), namesP_step h (by omega), fst_app hs, snd_app hs, ih _ (by omega) (h.to (by omega)) (by omega)]
theorem fits_app {L X : List Shp} {j : Nat} (h0 : 0 < j) (hj : j < L.length) (ha : okTo L j) (h : fits L j) : fits (L ++ X) j := by
  obtain ⟨a, b, c, d, e⟩ := h
  refine ⟨by rw [fst_app hj]; exact a, by rw [fst_app hj]; exact b, by rw [snd_app hj]; exact c, ?_, ?_⟩
  · rw [fst_app hj, snd_app hj, names_app (ha.ahead (by omega)) (by omega)]; exact d
  · rw [getD_app _ hj, List.take_append_of_le_length (by omega)]; exact e
theorem okay_app {L : List Shp} {a n : Int} (h : okay L) (h0 : 0 ≤ a) (h1 : a < L.length) (hn : 0 ≤ n) (hm : n ∉ namesP L a.toNat) (hx : (a, n) ∉ L) : okay (L ++ [(a, n)]) := by
  obtain ⟨l0, r, ok⟩ := h
  have ef : fstD (L ++ [(a, n)]) L.length = a := by unfold fstD; rw [getD_last]
  have es : sndD (L ++ [(a, n)]) L.length = n := by unfold sndD; rw [getD_last]
  refine ⟨by simp, by rw [getD_app _ l0]; exact r, fun j h2 h3 => ?_⟩
  rw [List.length_append] at h3
  simp at h3
  by_cases e : j = L.length
  · subst e
    refine ⟨by rw [ef]; exact h0, by rw [ef]; exact h1, by rw [es]; exact hn, ?_, ?_⟩
    · rw [ef, es, names_app (ok.ahead (by omega)) (by omega)]; exact hm
    · rw [getD_last, List.take_left]; exact hx
  · exact fits_app h2 (by omega) (fun i h4 h5 => ok i h4 (by omega)) (ok j h2 (by omega))
theorem idx_mem' {α : Type} [DecidableEq α] {L : List α} {p : α} (d : α) (h : p ∈ L) : ∃ k : Nat, k < L.length ∧ idx L p = k ∧ L.getD k d = p := by
  have hl : L.idxOf p < L.length := List.idxOf_lt_length_of_mem h
  refine ⟨L.idxOf p, hl, by unfold idx; rw [if_pos h], ?_⟩
  simp [List.getD, List.getElem?_eq_getElem hl]
theorem idx_mem {L : List Shp} {p : Shp} (h : p ∈ L) : ∃ k : Nat, k < L.length ∧ idx L p = k ∧ L.getD k (0, 0) = p := idx_mem' (0, 0) h
theorem namesQ_in {L : List Shp} {s : Nat} (hf : faultP L = 0) (h : s < L.length) : namesQ L s = namesP L s := by
  unfold namesQ; rw [if_neg (by omega)]; simp
/-- what With says where it says no error -/
theorem with_ok {L M : List Shp} {a n k : Int} (h : withP L a n = (M, k, 0)) :
    faultP L = 0 ∧ 0 ≤ a ∧ a < L.length ∧ 0 ≤ n ∧ n ∉ namesP L a.toNat ∧ (((a, n) ∈ L ∧ M = L ∧ k = idx L (a, n)) ∨ ((a, n) ∉ L ∧ L.length < 100 ∧ M = L ++ [(a, n)] ∧ k = L.length)) := by
  unfold withP at h
  split at h
  · rename_i hf
    simp only [Prod.mk.injEq] at h
    exact absurd h.2.2 hf
  · rename_i hf
    have hf : faultP L = 0 := by simpa using hf
    split at h
    · simp at h
    · rename_i h1
      split at h
      · simp at h
      · rename_i h2
        refine ⟨hf, by omega, by omega, by omega, h2, ?_⟩
        split at h
        · rename_i h3
          simp only [Prod.mk.injEq, and_true] at h
          exact .inl ⟨h3, h.1.symm, h.2.symm⟩
        · rename_i h3
          split at h
          · simp at h
          · rename_i h4
            simp only [Prod.mk.injEq, and_true] at h
            have := (faultP_ok hf).1
            exact .inr ⟨h3, by omega, h.1.symm, h.2.symm⟩
theorem with_bad {L M : List Shp} {a n k e : Int} (h : withP L a n = (M, k, e)) (he : e ≠ 0) : M = [] := by
  unfold withP at h
  repeat' split at h
  all_goals simp only [Prod.mk.injEq] at h
  all_goals first | exact h.1.symm | exact absurd h.2.2.symm he
theorem with_mem {L : List Shp} {a n : Int} (hf : faultP L = 0) (h0 : 0 ≤ a) (h1 : a < L.length) (h2 : 0 ≤ n) (h3 : n ∉ namesP L a.toNat) (h4 : (a, n) ∈ L) : withP L a n = (L, idx L (a, n), 0) := by
  unfold withP; rw [if_neg (by simp [hf]), if_neg (by omega), if_neg h3, if_pos h4]
theorem with_new {L : List Shp} {a n : Int} (hf : faultP L = 0) (h0 : 0 ≤ a) (h1 : a < L.length) (h2 : 0 ≤ n) (h3 : n ∉ namesP L a.toNat) (h4 : (a, n) ∉ L) (h5 : L.length ≠ 100) : withP L a n = (L ++ [(a, n)], (L.length : Int), 0) := by
  unfold withP; rw [if_neg (by simp [hf]), if_neg (by omega), if_neg h3, if_neg h4, if_neg h5]
/-- ALL THAT A NAME MORE DOES -/
theorem with_grows {L M : List Shp} {a n k : Int} (h : withP L a n = (M, k, 0)) :
    faultP M = 0 ∧ withP M a n = (M, k, 0) ∧ namesQ M k = namesQ L a ++ [n] ∧ (∀ o : Int, 0 ≤ o → o < L.length → namesQ M o = namesQ L o) ∧ L.length ≤ M.length ∧ 0 ≤ k ∧ k < M.length ∧ M.length ≤ 100 ∧ (L <+: M) ∧ (a, n) ∈ M := by
  obtain ⟨hf, h0, h1, h2, h3, h4⟩ := with_ok h
  obtain ⟨hl, hok⟩ := faultP_ok hf
  obtain ⟨s, rfl⟩ : ∃ s : Nat, a = s := ⟨a.toNat, by omega⟩
  rw [Int.toNat_natCast] at h3
  rcases h4 with ⟨hm, rfl, rfl⟩ | ⟨hm, h5, rfl, rfl⟩
  · obtain ⟨k, hk, he, hg⟩ := idx_mem hm
    have hk0 : 0 < k := by
      rcases Nat.eq_zero_or_pos k with e | e
      · subst e
        rw [hok.2.1] at hg
        have := congrArg Prod.fst hg
        simp only at this
        omega
      · exact e
    have hfs : fstD M k = s := by unfold fstD; rw [hg]
    have hsn : sndD M k = n := by unfold sndD; rw [hg]
    refine ⟨hf, with_mem hf (by omega) h1 h2 (by simpa using h3) hm, ?_, fun o _ _ => rfl, Nat.le_refl _, by omega, by omega, hl, List.prefix_refl _, hm⟩
    rw [he, namesQ_in hf hk, namesQ_in hf (by omega), namesP_step (hok.2.2.ahead hk) hk0, hfs, hsn, Int.toNat_natCast]
  · have hl2 : (L ++ [((s : Int), n)]).length = L.length + 1 := by simp
    have ho2 := okay_app hok h0 h1 h2 (by simpa using h3) hm
    have hf2 : faultP (L ++ [((s : Int), n)]) = 0 := fault_ok (by omega) ho2
    have hmm : ((s : Int), n) ∈ L ++ [((s : Int), n)] := by simp
    have hn2 : ∀ j, j < L.length → namesP (L ++ [((s : Int), n)]) j = namesP L j := fun j hj => names_app (hok.2.2.ahead hj) hj
    refine ⟨hf2, ?_, ?_, ?_, by omega, by omega, by omega, by omega, List.prefix_append _ _, hmm⟩
    · have hw := with_mem hf2 h0 (by omega) h2 (by rw [Int.toNat_natCast, hn2 _ (by omega)]; exact h3) hmm
      rw [hw]
      have hi : idx (L ++ [((s : Int), n)]) ((s : Int), n) = L.length := idx_at (0, 0) (by omega) (by rw [List.take_left]; exact hm) (getD_last _)
      rw [hi]
    · rw [namesQ_in hf2 (by omega), namesQ_in hf (by omega), namesP_step (ho2.2.2.ahead (by omega)) (by omega)]
      have e1 : fstD (L ++ [((s : Int), n)]) L.length = s := by unfold fstD; rw [getD_last]
      have e2 : sndD (L ++ [((s : Int), n)]) L.length = n := by unfold sndD; rw [getD_last]
      rw [e1, e2, Int.toNat_natCast, hn2 _ (by omega)]
    · intro o o0 o1
      obtain ⟨j, rfl⟩ : ∃ j : Nat, o = j := ⟨o.toNat, by omega⟩
      rw [namesQ_in hf2 (by omega), namesQ_in hf (by omega), hn2 _ (by omega)]
end Go.Proofs.Ytalippdhfkpbmaa
