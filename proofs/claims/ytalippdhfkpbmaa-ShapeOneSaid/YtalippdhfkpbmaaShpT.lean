/- Names are told apart: no name stands twice; what a longer list keeps. -/
import Derived.Test.YtalippdhfkpbmaaShpQ
namespace Go.Proofs.Ytalippdhfkpbmaa
open Go.RowKit
theorem Ints.at {w : World} {A : Option Addr} {n cap : Nat} {L : List Int} (h : Ints w (.slice A n cap) L) (h0 : 0 < L.length) : ∃ b o, A = some ⟨b, o, none⟩ ∧ b < w.heap.size ∧ ∀ i, i < L.length → w.cell? ⟨b, o + i, none⟩ = some (.int .i64 (L.getD i 0)) := by
  obtain ⟨A', cap', e, -, -, -, hA⟩ := h.open
  simp only [Value.slice.injEq] at e
  obtain ⟨rfl, -, -⟩ := e
  exact hA h0
theorem namesP_nodup {L : List Shp} {k : Nat} (hk : okTo L k) : ∀ {s : Nat}, s < k → (namesP L s).Nodup := by
  intro s
  induction s using Nat.strongRecOn with
  | _ s ih =>
    intro hs
    by_cases h0 : s = 0
    · subst h0; rw [namesP_zero]; exact List.nodup_nil
    · have hf := hk s (by omega) hs
      rw [namesP_step (hk.ahead hs) (by omega), List.nodup_append]
      refine ⟨ih _ (by have := hf.1; have := hf.2.1; omega) (by have := hf.1; have := hf.2.1; omega), by simp, fun x hx y hy => ?_⟩
      rw [List.mem_singleton.1 hy]
      rintro rfl
      exact hf.2.2.2.1 hx
theorem namesQ_nodup (L : List Shp) (a : Int) : (namesQ L a).Nodup := by
  unfold namesQ
  split
  · exact List.nodup_nil
  · rename_i h
    have hf : faultP L = 0 := by omega
    exact namesP_nodup (faultP_ok hf).2.2.2 (by omega)
theorem nodup_take {Q : List Int} (h : Q.Nodup) {k : Nat} (hk : k < Q.length) : Q.getD k 0 ∉ Q.take k := by
  intro hm
  obtain ⟨j, hj, e⟩ := List.mem_take_iff_getElem.1 hm
  simp only [List.getD, List.getElem?_eq_getElem hk, Option.getD_some] at e
  exact (List.pairwise_iff_getElem.1 h) j k (by omega) hk (by omega) e
theorem idx_nodup {Q : List Int} (h : Q.Nodup) {k : Nat} (hk : k < Q.length) : idx Q (Q.getD k 0) = k := idx_at 0 hk (nodup_take h hk) rfl
/-- the shape that the first j of the names lead to -/
noncomputable def path (M : List Shp) (N : List Int) : Nat → Int
  | 0 => 0
  | j + 1 => idx M (path M N j, N.getD j 0)
/-- with those names one comes along, in a list that has all of them -/
def Goes (M : List Shp) (N : List Int) (i : Nat) : Prop := ∀ j, j < i → withP M (path M N j) (N.getD j 0) = (M, path M N (j + 1), 0)
theorem not_ahead {α : Type} [DecidableEq α] (p : α) : ∀ L : List α, p ∉ L.take (L.idxOf p)
  | [] => by simp
  | x :: L => by
    by_cases h : x = p
    · subst h; simp
    · have := not_ahead p L
      have hb : (x == p) = false := by simpa using h
      rw [List.idxOf_cons, hb]
      show p ∉ (x :: L).take (L.idxOf p + 1)
      rw [List.take_succ_cons]
      intro hm
      rcases List.mem_cons.1 hm with e | e
      · exact h e.symm
      · exact this e
theorem idx_prefix' {α : Type} [DecidableEq α] {L X : List α} (d : α) {p : α} (hp : p ∈ L) : idx (L ++ X) p = idx L p := by
  have hl : L.idxOf p < L.length := List.idxOf_lt_length_of_mem hp
  have he : idx L p = L.idxOf p := by unfold idx; rw [if_pos hp]
  rw [he]
  refine idx_at d (by simp; omega) (by rw [List.take_append_of_le_length (by omega)]; exact not_ahead p L) ?_
  rw [getD_app _ hl]
  simp [List.getD, List.getElem?_eq_getElem hl]
theorem idx_prefix {L M : List Shp} (h : L <+: M) {p : Shp} (hp : p ∈ L) : idx M p = idx L p := by
  obtain ⟨X, rfl⟩ := h
  exact idx_prefix' (0, 0) hp
/-- what With says of a name that is there, it says in a longer list, too -/
theorem with_longer {L M : List Shp} {a n k : Int} (h : withP L a n = (L, k, 0)) (hp : L <+: M) (hf : faultP M = 0) : withP M a n = (M, k, 0) := by
  obtain ⟨f0, h0, h1, h2, h3, h4⟩ := with_ok h
  have hm : (a, n) ∈ L := by
    rcases h4 with ⟨hm, -⟩ | ⟨-, -, e, -⟩
    · exact hm
    · have := congrArg List.length e
      simp at this
  have hk : k = idx L (a, n) := by
    rcases h4 with ⟨-, -, e⟩ | ⟨hn, -⟩
    · exact e
    · exact absurd hm hn
  obtain ⟨X, rfl⟩ := hp
  obtain ⟨l0, ok⟩ := faultP_ok f0
  have := with_mem (L := L ++ X) (a := a) (n := n) hf h0 (by rw [List.length_append]; omega) h2 (by rw [names_app (s := a.toNat) (ok.2.2.ahead (by omega)) (by omega)]; exact h3) (List.mem_append_left _ hm)
  rw [this, idx_prefix (List.prefix_append L X) hm, hk]
theorem goes_longer {L M : List Shp} {N : List Int} {i : Nat} (h : Goes L N i) (hp : L <+: M) (hf : faultP M = 0) : Goes M N i ∧ ∀ j, j ≤ i → path M N j = path L N j := by
  induction i with
  | zero => exact ⟨fun j hj => absurd hj (Nat.not_lt_zero j), fun j hj => by obtain rfl := Nat.le_zero.1 hj; rfl⟩
  | succ i ih =>
    obtain ⟨g, e⟩ := ih (fun j hj => h j (by omega))
    have hs : withP M (path M N i) (N.getD i 0) = (M, path L N (i + 1), 0) := by
      rw [e i (Nat.le_refl _)]
      exact with_longer (h i (by omega)) hp hf
    have hm : path M N (i + 1) = path L N (i + 1) := by
      obtain ⟨-, -, -, -, -, h4⟩ := with_ok hs
      rcases h4 with ⟨-, -, h5⟩ | ⟨-, -, h5, -⟩
      · exact h5.symm
      · have := congrArg List.length h5
        simp at this
    refine ⟨fun j hj => ?_, fun j hj => ?_⟩
    · by_cases ej : j = i
      · subst ej; rw [hm]; exact hs
      · exact g j (by omega)
    · by_cases ej : j = i + 1
      · subst ej; exact hm
      · exact e j (by omega)
/-- one name more -/
theorem goes_step {L M : List Shp} {N : List Int} {i : Nat} {k : Int} (h : Goes L N i) (hw : withP L (path L N i) (N.getD i 0) = (M, k, 0)) : Goes M N (i + 1) ∧ path M N (i + 1) = k := by
  obtain ⟨g1, g2, g3, g4, g5, g6, g7, g8, g9, g10⟩ := with_grows hw
  obtain ⟨g, e⟩ := goes_longer h g9 g1
  rw [← e i (Nat.le_refl _)] at g2
  have hm : path M N (i + 1) = k := by
    obtain ⟨-, -, -, -, -, h4⟩ := with_ok g2
    rcases h4 with ⟨-, -, h5⟩ | ⟨-, -, h5, -⟩
    · exact h5.symm
    · have := congrArg List.length h5
      simp at this
  refine ⟨fun j hj => ?_, hm⟩
  by_cases ej : j = i
  · subst ej; rw [hm]; exact g2
  · exact g j (by omega)
end Go.Proofs.Ytalippdhfkpbmaa
