/- Several texts in one. -/
import Derived.Test.YtomhiphiogbbiaaGreatDoorMa
import Derived.Test.YtomhiphiogbbiaaGreatDoorMe
import Derived.Test.YtomhiphiogbbiaaGreatDoorMf
import Derived.Test.YtomhiphiogbbiaaGreatDoorMw
set_option linter.unusedSimpArgs false
set_option linter.unusedVariables false
set_option maxRecDepth 100000
set_option maxHeartbeats 16000000
namespace Go.Proofs.YtomhiphiogbbiaaGreatDoor
open Go.RowKit
theorem getD_app {α : Type} {L X : List α} {i : Nat} (d : α) (h : i < L.length) : (L ++ X).getD i d = L.getD i d := by
  simp [List.getD, List.getElem?_append_left h]
theorem getD_last {α : Type} {L : List α} {x : α} (d : α) : (L ++ [x]).getD L.length d = x := by
  simp [List.getD]
theorem fst_app {L X : List Shp} {i : Nat} (h : i < L.length) : fstD (L ++ X) i = fstD L i := by unfold fstD; rw [getD_app _ h]
theorem snd_app {L X : List Shp} {i : Nat} (h : i < L.length) : sndD (L ++ X) i = sndD L i := by unfold sndD; rw [getD_app _ h]
theorem Ahead.app {L X : List Shp} {s : Nat} (h : Ahead L s) (hs : s < L.length) : Ahead (L ++ X) s := fun j h0 h1 => by
  rw [fst_app (by omega)]
  exact h j h0 h1
theorem names_app {L X : List Shp} : ∀ {s : Nat}, Ahead L s → s < L.length → namesP (L ++ X) s = namesP L s := by
  intro s
  induction s using Nat.strongRecOn with
  | _ s ih =>
    intro h hs
    by_cases h0 : s = 0
    · subst h0; rfl
    · have hu := h s (by omega) (Nat.le_refl _)
      rw [namesP_step (h.app hs) (by omega), namesP_step h (by omega), fst_app hs, snd_app hs, ih _ (by omega) (h.to (by omega)) (by omega)]
theorem fits_app {L X : List Shp} {j : Nat} (h0 : 0 < j) (hj : j < L.length) (ha : okTo L j) (h : fits L j) : fits (L ++ X) j := by
  obtain ⟨a, b, c, d, e⟩ := h
  refine ⟨by rw [fst_app hj]; exact a, by rw [fst_app hj]; exact b, by rw [snd_app hj]; exact c, ?_, ?_⟩
  · rw [fst_app hj, snd_app hj, names_app (ha.ahead (by omega)) (by omega)]; exact d
  · rw [getD_app _ hj, List.take_append_of_le_length (by omega)]; exact e
theorem okay_app {L : List Shp} {a n : Int} (h : okay L) (h0 : 0 ≤ a) (h1 : a < L.length) (hn : 0 ≤ n) (hm : n ∉ namesP L a.toNat) (hx : (a, n) ∉ L) : okay (L ++ [(a, n)]) := by
  obtain ⟨l0, r, ok⟩ := h
  have ef : fstD (L ++ [(a, n)]) L.length = a := by unfold fstD; rw [getD_last]
  have es : sndD (L ++ [(a, n)]) L.length = n := by unfold sndD; rw [getD_last]
  refine ⟨by simp, by rw [getD_app _ l0]; exact r, fun j h2 h3 => ?_⟩
  rw [List.length_append] at h3
  simp at h3
  by_cases e : j = L.length
  · subst e
    refine ⟨by rw [ef]; exact h0, by rw [ef]; exact h1, by rw [es]; exact hn, ?_, ?_⟩
    · rw [ef, es, names_app (ok.ahead (by omega)) (by omega)]; exact hm
    · rw [getD_last, List.take_left]; exact hx
  · exact fits_app h2 (by omega) (fun i h4 h5 => ok i h4 (by omega)) (ok j h2 (by omega))
theorem idx_mem' {α : Type} [DecidableEq α] {L : List α} {p : α} (d : α) (h : p ∈ L) : ∃ k : Nat, k < L.length ∧ idx L p = k ∧ L.getD k d = p := by
  have hl : L.idxOf p < L.length := List.idxOf_lt_length_of_mem h
  refine ⟨L.idxOf p, hl, by unfold idx; rw [if_pos h], ?_⟩
  simp [List.getD, List.getElem?_eq_getElem hl]
theorem idx_mem {L : List Shp} {p : Shp} (h : p ∈ L) : ∃ k : Nat, k < L.length ∧ idx L p = k ∧ L.getD k (0, 0) = p := idx_mem' (0, 0) h
theorem namesQ_in {L : List Shp} {s : Nat} (hf : faultP L = 0) (h : s < L.length) : namesQ L s = namesP L s := by
  unfold namesQ; rw [if_neg (by omega)]; simp
theorem with_ok {L M : List Shp} {a n k : Int} (h : withP L a n = (M, k, 0)) :
    faultP L = 0 ∧ 0 ≤ a ∧ a < L.length ∧ 0 ≤ n ∧ n ∉ namesP L a.toNat ∧ (((a, n) ∈ L ∧ M = L ∧ k = idx L (a, n)) ∨ ((a, n) ∉ L ∧ L.length < 100 ∧ M = L ++ [(a, n)] ∧ k = L.length)) := by
  unfold withP at h
  split at h
  · rename_i hf
    simp only [Prod.mk.injEq] at h
    exact absurd h.2.2 hf
  · rename_i hf
    have hf : faultP L = 0 := by simpa using hf
    split at h
    · simp at h
    · rename_i h1
      split at h
      · simp at h
      · rename_i h2
        refine ⟨hf, by omega, by omega, by omega, h2, ?_⟩
        split at h
        · rename_i h3
          simp only [Prod.mk.injEq, and_true] at h
          exact .inl ⟨h3, h.1.symm, h.2.symm⟩
        · rename_i h3
          split at h
          · simp at h
          · rename_i h4
            simp only [Prod.mk.injEq, and_true] at h
            have := (faultP_ok hf).1
            exact .inr ⟨h3, by omega, h.1.symm, h.2.symm⟩
theorem with_mem {L : List Shp} {a n : Int} (hf : faultP L = 0) (h0 : 0 ≤ a) (h1 : a < L.length) (h2 : 0 ≤ n) (h3 : n ∉ namesP L a.toNat) (h4 : (a, n) ∈ L) : withP L a n = (L, idx L (a, n), 0) := by
  unfold withP; rw [if_neg (by simp [hf]), if_neg (by omega), if_neg h3, if_pos h4]
theorem with_grows {L M : List Shp} {a n k : Int} (h : withP L a n = (M, k, 0)) :
    faultP M = 0 ∧ withP M a n = (M, k, 0) ∧ namesQ M k = namesQ L a ++ [n] ∧ (∀ o : Int, 0 ≤ o → o < L.length → namesQ M o = namesQ L o) ∧ L.length ≤ M.length ∧ 0 ≤ k ∧ k < M.length ∧ M.length ≤ 100 ∧ (L <+: M) ∧ (a, n) ∈ M := by
  obtain ⟨hf, h0, h1, h2, h3, h4⟩ := with_ok h
  obtain ⟨hl, hok⟩ := faultP_ok hf
  obtain ⟨s, rfl⟩ : ∃ s : Nat, a = s := ⟨a.toNat, by omega⟩
  rw [Int.toNat_natCast] at h3
  rcases h4 with ⟨hm, rfl, rfl⟩ | ⟨hm, h5, rfl, rfl⟩
  · obtain ⟨k, hk, he, hg⟩ := idx_mem hm
    have hk0 : 0 < k := by
      rcases Nat.eq_zero_or_pos k with e | e
      · subst e
        rw [hok.2.1] at hg
        have := congrArg Prod.fst hg
        simp only at this
        omega
      · exact e
    have hfs : fstD M k = s := by unfold fstD; rw [hg]
    have hsn : sndD M k = n := by unfold sndD; rw [hg]
    refine ⟨hf, with_mem hf (by omega) h1 h2 (by simpa using h3) hm, ?_, fun o _ _ => rfl, Nat.le_refl _, by omega, by omega, hl, List.prefix_refl _, hm⟩
    rw [he, namesQ_in hf hk, namesQ_in hf (by omega), namesP_step (hok.2.2.ahead hk) hk0, hfs, hsn, Int.toNat_natCast]
  · have hl2 : (L ++ [((s : Int), n)]).length = L.length + 1 := by simp
    have ho2 := okay_app hok h0 h1 h2 (by simpa using h3) hm
    have hf2 : faultP (L ++ [((s : Int), n)]) = 0 := fault_ok (by omega) ho2
    have hmm : ((s : Int), n) ∈ L ++ [((s : Int), n)] := by simp
    have hn2 : ∀ j, j < L.length → namesP (L ++ [((s : Int), n)]) j = namesP L j := fun j hj => names_app (hok.2.2.ahead hj) hj
    refine ⟨hf2, ?_, ?_, ?_, by omega, by omega, by omega, by omega, List.prefix_append _ _, hmm⟩
    · have hw := with_mem hf2 h0 (by omega) h2 (by rw [Int.toNat_natCast, hn2 _ (by omega)]; exact h3) hmm
      rw [hw]
      have hi : idx (L ++ [((s : Int), n)]) ((s : Int), n) = L.length := idx_at (0, 0) (by omega) (by rw [List.take_left]; exact hm) (getD_last _)
      rw [hi]
    · rw [namesQ_in hf2 (by omega), namesQ_in hf (by omega), namesP_step (ho2.2.2.ahead (by omega)) (by omega)]
      have e1 : fstD (L ++ [((s : Int), n)]) L.length = s := by unfold fstD; rw [getD_last]
      have e2 : sndD (L ++ [((s : Int), n)]) L.length = n := by unfold sndD; rw [getD_last]
      rw [e1, e2, Int.toNat_natCast, hn2 _ (by omega)]
    · intro o o0 o1
      obtain ⟨j, rfl⟩ : ∃ j : Nat, o = j := ⟨o.toNat, by omega⟩
      rw [namesQ_in hf2 (by omega), namesQ_in hf (by omega), hn2 _ (by omega)]
end Go.Proofs.YtomhiphiogbbiaaGreatDoor

namespace Go.Proofs.YtomhiphiogbbiaaGreatDoor
open Go.RowKit
theorem Ints.at {w : World} {A : Option Addr} {n cap : Nat} {L : List Int} (h : Ints w (.slice A n cap) L) (h0 : 0 < L.length) : ∃ b o, A = some ⟨b, o, none⟩ ∧ b < w.heap.size ∧ ∀ i, i < L.length → w.cell? ⟨b, o + i, none⟩ = some (.int .i64 (L.getD i 0)) := by
  obtain ⟨A', cap', e, -, -, -, hA⟩ := h.open
  simp only [Value.slice.injEq] at e
  obtain ⟨rfl, -, -⟩ := e
  exact hA h0
end Go.Proofs.YtomhiphiogbbiaaGreatDoor

namespace Go.Proofs.YtomhiphiogbbiaaGreatDoor
open Go.RowKit Go
noncomputable def slotW (s : GState) (of which : GVal) : Int × Int :=
  if of.kind = 5 ∧ (cellAt s of.n).kind = 1 ∧ which.kind = 4 then (idxQ (namesQ s.shapes (cellAt s of.n).num) which.n, -1)
  else if of.kind = 5 ∧ (cellAt s of.n).kind = 2 ∧ which.kind = 2 then (if 0 ≤ which.n ∧ which.n < (cellAt s of.n).vals.length then (which.n, -1) else (-1, 3))
  else (-1, 0)
def setCS (s : GState) (n : Nat) (c : GCell) (l : List Shp) : GState := ⟨s.cells.set n c, l, s.texts, s.threads, s.ends, s.said, s.asked, s.steps⟩
noncomputable def putW (s : GState) (of which v : GVal) : GState × Int :=
  if 0 ≤ (slotW s of which).2 then (s, (slotW s of which).2)
  else if 0 ≤ (slotW s of which).1 then (setCS s of.n.toNat ⟨(cellAt s of.n).kind, (cellAt s of.n).num, (cellAt s of.n).vals.set (slotW s of which).1.toNat v, (cellAt s of.n).frames⟩ s.shapes, -1)
  else if (withP s.shapes (cellAt s of.n).num which.n).2.2 ≠ 0 ∨ 100 ≤ (cellAt s of.n).vals.length then (s, 4)
  else (setCS s of.n.toNat ⟨(cellAt s of.n).kind, (withP s.shapes (cellAt s of.n).num which.n).2.1, (cellAt s of.n).vals ++ [v], (cellAt s of.n).frames⟩ (withP s.shapes (cellAt s of.n).num which.n).1, -1)
section
variable {s : GState}
theorem setCS_at {n : Nat} {c : GCell} {l : List Shp} {m : Int} (hn : n < s.cells.length) : cellAt (setCS s n c l) m = if m.toNat = n then c else cellAt s m := by
  unfold cellAt setCS
  rw [List.getD_eq_getElem?_getD, List.getD_eq_getElem?_getD, List.getElem?_set]
  by_cases e : n = m.toNat
  · subst e; simp [hn]
  · rw [if_neg e, if_neg (fun h => e h.symm)]
theorem setCS_k {n : Nat} {c : GCell} {l : List Shp} (hn : n < s.cells.length) (hk : c.kind = s.cells[n].kind) (hm : c.kind = 4 ∨ c.kind = 5 → c.num = s.cells[n].num) : SameK s (setCS s n c l) := by
  have hat : ∀ m : Int, m.toNat = n → cellAt s m = s.cells[n] := fun m e => by
    unfold cellAt
    rw [List.getD_eq_getElem?_getD, e, List.getElem?_eq_getElem hn]; rfl
  refine ⟨rfl, by simp [setCS], rfl, fun m => ?_, fun m h => ?_⟩
  · rw [setCS_at hn]
    split
    · rename_i e; rw [hat m e, hk]
    · rfl
  · rw [setCS_at hn]
    split
    · rename_i e
      rw [hat m e] at h ⊢
      exact hm (by rw [hk]; exact h)
    · rfl
theorem slot_le (of which : GVal) : (slotW s of which).2 = -1 ∨ 0 ≤ (slotW s of which).2 := by
  unfold slotW
  split
  · exact .inl rfl
  · split
    · split
      · exact .inl rfl
      · exact .inr (by decide)
    · exact .inr (by decide)
theorem mem_setCS {n : Nat} {c c' : GCell} {l : List Shp} (h : c' ∈ (setCS s n c l).cells) : c' ∈ s.cells ∨ c' = c := List.mem_or_eq_of_mem_set h
theorem set_cells {n : Nat} {c : GCell} {l : List Shp} (h : cellsQ wordsT s = 0) (hn : n < s.cells.length) (hk : c.kind = s.cells[n].kind) (hm : c.kind = 4 ∨ c.kind = 5 → c.num = s.cells[n].num) (hl : faultP l = 0) (hnm : ∀ x ∈ l, x.2 < s.texts.length)
    (hle : s.shapes.length ≤ l.length) (hnq : ∀ o : Nat, o < s.shapes.length → namesP l o = namesP s.shapes o) (hmy : manyB c = false) (hc : cellB (setCS s n c l) c = true) : cellsQ wordsT (setCS s n c l) = 0 := by
  have hK : SameK s (setCS s n c l) := setCS_k hn hk hm
  rw [cellsQ_iff] at h ⊢
  obtain ⟨c1, c2, c3, c4, c5, c6, c7⟩ := h
  refine ⟨?_, hl, c3, ?_, ?_, ?_, ?_⟩
  · simp only [heapLarge, Bool.or_eq_false_iff, decide_eq_false_iff_not] at c1 ⊢
    obtain ⟨⟨⟨⟨⟨b1, b2⟩, b3⟩, b4⟩, b5⟩, b6⟩ := c1
    refine ⟨⟨⟨⟨⟨by rw [hK.cl]; exact b1, b2⟩, b3⟩, b4⟩, b5⟩, ?_⟩
    rw [List.any_eq_false] at b6 ⊢
    intro c' h'
    rcases mem_setCS h' with h' | rfl
    · exact b6 c' h'
    · rw [hmy]; decide
  · rw [List.all_eq_true]
    intro x hx
    exact decide_eq_true (show x.2 < (s.texts.length : Int) from hnm x hx)
  · rw [List.all_eq_true] at c5 ⊢
    intro c' h'
    rcases mem_setCS h' with h' | rfl
    · obtain ⟨d1, d2, d3, d4⟩ := cellB_parts (c5 c' h')
      simp only [cellB, Bool.and_eq_true, decide_eq_true_eq]
      rw [hK.fits, hK.frameFits]
      refine ⟨⟨⟨?_, d2⟩, d3⟩, d4⟩
      unfold kindB at d1 ⊢
      rw [hK.names]
      by_cases e1 : c'.kind = 1
      · rw [if_neg (by omega), if_pos e1] at d1 ⊢
        simp only [Bool.and_eq_true, decide_eq_true_eq] at d1 ⊢
        obtain ⟨d1, d5⟩ := d1
        simp only [btw, Bool.and_eq_true, decide_eq_true_eq] at d1 ⊢
        have hs : (setCS s n c l).shapes = l := rfl
        refine ⟨?_, ?_⟩
        · rw [hs]; exact ⟨d1.1, by omega⟩
        · rw [d5]
          unfold shapeLen
          rw [hs, hnq _ (by omega)]
      · by_cases e0 : c'.kind = 0
        · rw [if_pos e0] at d1 ⊢; exact d1
        · rw [if_neg e0, if_neg e1] at d1 ⊢; exact d1
    · exact hc
  · have e : saidB (setCS s n c l) = saidB s := by funext v; unfold saidB; rw [hK.fits]
    rw [e]; exact c6
  · refine all_mono c7 fun e _ he => ?_
    simp only [endB, Bool.and_eq_true] at he ⊢
    rw [hK.names, hK.cl]
    exact he
theorem heap_cell (h : cellsQ wordsT s = 0) {n : Nat} (hn : n < s.cells.length) : cellB s s.cells[n] = true ∧ manyB s.cells[n] = false ∧ faultP s.shapes = 0 ∧ ∀ x ∈ s.shapes, x.2 < s.texts.length := by
  obtain ⟨c1, c2, c3, c4, c5, c6, c7⟩ := cellsQ_iff.1 h
  refine ⟨List.all_eq_true.1 c5 _ (List.getElem_mem hn), ?_, c2, fun x hx => by simpa using List.all_eq_true.1 c4 x hx⟩
  simp only [heapLarge, Bool.or_eq_false_iff, List.any_eq_false] at c1
  simpa using c1.2 _ (List.getElem_mem hn)
theorem slot_kind {of which : GVal} (h : (slotW s of which).2 = -1) : of.kind = 5 ∧ (((cellAt s of.n).kind = 1 ∧ which.kind = 4) ∨ ((cellAt s of.n).kind = 2 ∧ which.kind = 2 ∧ 0 ≤ (slotW s of which).1)) := by
  unfold slotW at h ⊢
  split at h
  · rename_i e; exact ⟨e.1, .inl e.2⟩
  · rename_i e1
    rw [if_neg e1]
    split at h
    · rename_i e
      rw [if_pos e]
      split at h
      · rename_i e3
        rw [if_pos e3]
        exact ⟨e.1, .inr ⟨e.2.1, e.2.2, e3.1⟩⟩
      · cases h
    · cases h
theorem put_right {of which v : GVal} (h : cellsQ wordsT s = 0) (ho : fitsB s of = true) (hw : fitsB s which = true) (hv : fitsB s v = true) (ht : (putW s of which v).2 = -1) : cellsQ wordsT (putW s of which v).1 = 0 := by
  have hin := fits_in ho
  unfold putW at ht ⊢
  by_cases q1 : 0 ≤ (slotW s of which).2
  · rw [if_pos q1] at ht
    simp only at ht
    omega
  rw [if_neg q1] at ht ⊢
  obtain ⟨k5, hk⟩ := slot_kind ((slot_le of which).resolve_right q1)
  obtain ⟨n0, n1⟩ := hin k5
  obtain ⟨n, hn⟩ : ∃ n : Nat, of.n = n := ⟨of.n.toNat, by omega⟩
  have hnl : n < s.cells.length := by omega
  have hat : cellAt s of.n = s.cells[n] := by rw [hn]; exact at_nat hnl
  obtain ⟨d, m, fl, nm⟩ := heap_cell h hnl
  obtain ⟨d1, d2, d3, d4⟩ := cellB_parts d
  have htn : of.n.toNat = n := by omega
  rw [hat] at hk ht ⊢
  rw [htn] at ht ⊢
  generalize hc : s.cells[n] = c at *
  have hkind : c.kind = 1 ∨ c.kind = 2 := by rcases hk with hk | hk; exact .inl hk.1; exact .inr hk.1
  by_cases q2 : 0 ≤ (slotW s of which).1
  · rw [if_pos q2] at ht ⊢
    have hK : SameK s (setCS s n ⟨c.kind, c.num, c.vals.set (slotW s of which).1.toNat v, c.frames⟩ s.shapes) := setCS_k hnl (by rw [hc]) (fun _ => by rw [hc])
    refine set_cells h hnl (by rw [hc]) (fun _ => by rw [hc]) fl nm (Nat.le_refl _) (fun _ _ => rfl) ?_ ?_
    · simpa [manyB] using m
    · simp only [cellB, Bool.and_eq_true, decide_eq_true_eq]
      rw [hK.fits, hK.frameFits]
      refine ⟨⟨⟨?_, d2⟩, ?_⟩, d4⟩
      · unfold kindB at d1 ⊢
        rcases hkind with e | e
        · simp only [e] at d1 ⊢
          rw [if_neg (by omega), if_pos trivial] at d1 ⊢
          simp only [Bool.and_eq_true, decide_eq_true_eq] at d1 ⊢
          exact ⟨d1.1, by rw [List.length_set]; exact d1.2⟩
        · simp only [e] at d1 ⊢
          rw [if_neg (by omega), if_neg (by omega), if_pos trivial] at d1 ⊢
          exact d1
      · rw [List.all_eq_true] at d3 ⊢
        intro x hx
        rcases List.mem_or_eq_of_mem_set hx with hx | rfl
        · exact d3 x hx
        · exact hv
  · rw [if_neg q2] at ht ⊢
    have k1 : c.kind = 1 ∧ which.kind = 4 := hk.resolve_right fun e => q2 e.2.2
    by_cases q3 : (withP s.shapes c.num which.n).2.2 ≠ 0 ∨ 100 ≤ c.vals.length
    · rw [if_pos q3] at ht; cases ht
    rw [if_neg q3] at ht ⊢
    have he : (withP s.shapes c.num which.n).2.2 = 0 := Decidable.byContradiction fun e => q3 (.inl e)
    have hlen : c.vals.length < 100 := Nat.lt_of_not_le fun e => q3 (.inr e)
    obtain ⟨M, k, e0, hM⟩ : ∃ M k e0, withP s.shapes c.num which.n = (M, k, e0) := ⟨_, _, _, rfl⟩
    rw [hM] at he ⊢
    simp only at he ⊢
    subst he
    obtain ⟨g1, -, g3, g4, g5, g6, g7, g8, g9, -⟩ := with_grows hM
    obtain ⟨f1, f2, f3, -, -, f6⟩ := with_ok hM
    have hK : SameK s (setCS s n ⟨c.kind, k, c.vals ++ [v], c.frames⟩ M) := setCS_k hnl (by rw [hc]) (fun e => by simp only at e; omega)
    have hwt : which.n < s.texts.length := by
      simp only [fitsB, Bool.and_eq_true] at hw
      have := hw.2
      rw [if_pos k1.2] at this
      simpa using this
    refine set_cells h hnl (by rw [hc]) (fun e => by simp only at e; omega) g1 (fun x hx => ?_) g5 (fun o ho2 => ?_) ?_ ?_
    · rcases f6 with ⟨-, rfl, -⟩ | ⟨-, -, rfl, -⟩
      · exact nm x hx
      · rcases List.mem_append.1 hx with hx | hx
        · exact nm x hx
        · rw [List.mem_singleton] at hx; subst hx; exact hwt
    · have := g4 o (by omega) (by omega)
      rwa [namesQ_in g1 (by omega), namesQ_in f1 ho2] at this
    · simp [manyB]; omega
    · simp only [cellB, Bool.and_eq_true, decide_eq_true_eq]
      rw [hK.fits, hK.frameFits]
      refine ⟨⟨⟨?_, ?_⟩, ?_⟩, d4⟩
      · unfold kindB at d1 ⊢
        simp only [k1.1] at d1 ⊢
        rw [if_neg (by omega), if_pos trivial] at d1 ⊢
        simp only [Bool.and_eq_true, decide_eq_true_eq, btw] at d1 ⊢
        have hs : (setCS s n ⟨1, k, c.vals ++ [v], c.frames⟩ M).shapes = M := rfl
        obtain ⟨kn, rfl⟩ : ∃ kn : Nat, k = kn := ⟨k.toNat, by omega⟩
        obtain ⟨cn, hcn⟩ : ∃ cn : Nat, c.num = cn := ⟨c.num.toNat, by omega⟩
        rw [hcn] at g3 d1
        rw [namesQ_in g1 (by omega), namesQ_in f1 (by omega)] at g3
        refine ⟨by rw [hs]; exact ⟨by omega, by omega⟩, ?_⟩
        unfold shapeLen at d1 ⊢
        rw [hs, Int.toNat_natCast, g3]
        have := d1.2
        simp at this ⊢
        omega
      · simp only [framesOf] at d2 ⊢
        rw [if_neg (by omega)] at d2 ⊢
        exact d2
      · rw [List.all_eq_true] at d3 ⊢
        intro x hx
        rcases List.mem_append.1 hx with hx | hx
        · exact d3 x hx
        · rw [List.mem_singleton] at hx; subst hx; exact hv
end
end Go.Proofs.YtomhiphiogbbiaaGreatDoor

namespace Go.Proofs.YtomhiphiogbbiaaGreatDoor
open Go.RowKit Go
section
variable {α : Type} [DecidableEq α] {L : List α} {u v a : α}
theorem idxQ_get {k : Nat} (h : idxQ L v = k) : ∃ hk : k < L.length, L[k] = v := by
  unfold idxQ at h
  split at h
  · rename_i j hj
    obtain rfl : j = k := by omega
    obtain ⟨hk, h1, -⟩ := List.findIdx?_eq_some_iff_getElem.1 hj
    exact ⟨hk, (of_decide_eq_true h1).symm⟩
  · omega
theorem idxQ_neg (h : ¬ 0 ≤ idxQ L v) : idxQ L v = -1 := by
  unfold idxQ at h ⊢
  split
  · rename_i k hk
    rw [hk] at h
    simp only at h
    omega
  · rfl
theorem idxQ_more (h : v ≠ a) : idxQ (L ++ [a]) v = idxQ L v := by
  unfold idxQ
  rw [List.findIdx?_append, show [a].findIdx? (fun x => decide (v = x)) = none by simp [List.findIdx?_cons, h]]
  simp
theorem idxQ_new (h : a ∉ L) : idxQ (L ++ [a]) a = L.length := by
  refine idxQ_at (by simp) (fun j hj hjl e => ?_) (by simp)
  rw [List.getElem_append_left hjl] at e
  exact h (e ▸ List.getElem_mem hjl)
end
noncomputable def slotC (L : List Shp) (c : GCell) (which : GVal) : Int × Int :=
  if c.kind = 1 ∧ which.kind = 4 then (idxQ (namesQ L c.num) which.n, -1) else if c.kind = 2 ∧ which.kind = 2 then (if 0 ≤ which.n ∧ which.n < c.vals.length then (which.n, -1) else (-1, 3)) else (-1, 0)
noncomputable def gotC (L : List Shp) (c : GCell) (which : GVal) : GVal × Int := if 0 ≤ (slotC L c which).1 then (valAt c.vals (slotC L c which).1.toNat, -1) else (⟨0, 0⟩, (slotC L c which).2)
noncomputable def getW (s : GState) (of which : GVal) : GVal × Int := if 0 ≤ (slotW s of which).1 then (valAt (cellAt s of.n).vals (slotW s of which).1.toNat, -1) else (⟨0, 0⟩, (slotW s of which).2)
section
variable {s : GState}
theorem slotW_eq (of which : GVal) : slotW s of which = if of.kind = 5 then slotC s.shapes (cellAt s of.n) which else (-1, 0) := by
  unfold slotW slotC
  by_cases e : of.kind = 5 <;> simp [e]
theorem getW_eq (of which : GVal) : getW s of which = if of.kind = 5 then gotC s.shapes (cellAt s of.n) which else (⟨0, 0⟩, 0) := by
  unfold getW gotC
  rw [slotW_eq]
  by_cases e : of.kind = 5 <;> simp [e]
theorem obj_len (h : cellsQ wordsT s = 0) {n : Nat} (hn : n < s.cells.length) (hk : s.cells[n].kind = 1) : 0 ≤ s.cells[n].num ∧ s.cells[n].num < s.shapes.length ∧ (namesQ s.shapes s.cells[n].num).length = s.cells[n].vals.length := by
  obtain ⟨d, m, fl, nm⟩ := heap_cell h hn
  obtain ⟨d1, d2, d3, d4⟩ := cellB_parts d
  unfold kindB at d1
  rw [if_neg (by omega), if_pos hk] at d1
  simp only [Bool.and_eq_true, decide_eq_true_eq, btw] at d1
  obtain ⟨d1, d5⟩ := d1
  have d6 : 0 ≤ s.cells[n].num ∧ s.cells[n].num < s.shapes.length := ⟨d1.1, by omega⟩
  refine ⟨d6.1, d6.2, ?_⟩
  obtain ⟨k, hk'⟩ : ∃ k : Nat, s.cells[n].num = k := ⟨s.cells[n].num.toNat, by omega⟩
  rw [hk', namesQ_in fl (by omega)]
  unfold shapeLen at d5
  rw [hk', Int.toNat_natCast] at d5
  omega
end
section
variable {L M : List Shp} {c : GCell} {which name v : GVal}
theorem got_set {k : Nat} (hs : slotC L c which = ((k : Int), -1)) (hk : k < c.vals.length) : gotC L ⟨c.kind, c.num, c.vals.set k v, c.frames⟩ which = (v, -1) := by
  have e : slotC L ⟨c.kind, c.num, c.vals.set k v, c.frames⟩ which = slotC L c which := by unfold slotC; simp
  unfold gotC
  rw [e, hs]
  simp [valAt, List.getD_eq_getElem?_getD, hk]
theorem got_set_ne {k : Nat} (hs : slotC L c which = ((k : Int), -1)) (hn : name ≠ which) : gotC L ⟨c.kind, c.num, c.vals.set k v, c.frames⟩ name = gotC L c name := by
  have e : slotC L ⟨c.kind, c.num, c.vals.set k v, c.frames⟩ name = slotC L c name := by unfold slotC; simp
  unfold gotC
  rw [e]
  split
  · rename_i h0
    have hne : k ≠ (slotC L c name).1.toNat := fun e2 => hn (by
      unfold slotC at hs e2 h0
      split at hs
      · rename_i a1
        simp only [Prod.mk.injEq, and_true] at hs
        split at e2
        · rename_i a2
          rw [if_pos a2] at h0
          obtain ⟨g1, g2⟩ := idxQ_get hs
          obtain ⟨g3, g4⟩ := idxQ_get (L := namesQ L c.num) (v := name.n) (k := k) (by simp only at e2 h0; omega)
          cases name; cases which; simp_all
        · rename_i a2
          rw [if_neg a2, if_neg (by omega)] at h0
          simp at h0
      · rename_i a1
        split at hs
        · rename_i a3
          split at hs
          · rename_i a4
            simp only [Prod.mk.injEq, and_true] at hs
            rw [if_neg (by omega)] at e2 h0
            split at e2
            · rename_i a5
              rw [if_pos a5] at h0
              split at e2
              · rename_i a6
                rw [if_pos a6] at h0
                simp only at e2 h0
                cases name; cases which; simp_all; omega
              · rename_i a6
                rw [if_neg a6] at h0
                simp at h0
            · rename_i a5
              rw [if_neg a5] at h0
              simp at h0
          · simp at hs
        · simp at hs)
    simp [valAt, List.getD_eq_getElem?_getD, List.getElem?_set_ne hne]
  · rfl
theorem got_new {q : Int} {f : List GFrame} (hc : c.kind = 1) (hw : which.kind = 4) (hno : which.n ∉ namesQ L c.num) (hl : (namesQ L c.num).length = c.vals.length) (hM : namesQ M q = namesQ L c.num ++ [which.n]) : gotC M ⟨c.kind, q, c.vals ++ [v], f⟩ which = (v, -1) := by
  have e : slotC M ⟨c.kind, q, c.vals ++ [v], f⟩ which = (((c.vals.length : Nat) : Int), -1) := by
    unfold slotC
    rw [if_pos ⟨hc, hw⟩, hM, idxQ_new hno, hl]
  unfold gotC
  rw [e]
  simp [valAt, List.getD_eq_getElem?_getD]
theorem got_new_ne {q : Int} {f : List GFrame} (hc : c.kind = 1) (hw : which.kind = 4) (hl : (namesQ L c.num).length = c.vals.length) (hM : namesQ M q = namesQ L c.num ++ [which.n]) (hn : name ≠ which) : gotC M ⟨c.kind, q, c.vals ++ [v], f⟩ name = gotC L c name := by
  have e : slotC M ⟨c.kind, q, c.vals ++ [v], f⟩ name = slotC L c name := by
    unfold slotC
    by_cases h4 : name.kind = 4
    · have : name.n ≠ which.n := fun e => hn (by cases name; cases which; simp_all)
      rw [if_pos ⟨hc, h4⟩, if_pos ⟨hc, h4⟩, hM, idxQ_more this]
    · rw [if_neg (fun e => h4 e.2), if_neg (fun e => absurd (hc.symm.trans e.1) (by decide)), if_neg (fun e => h4 e.2), if_neg (fun e => absurd (hc.symm.trans e.1) (by decide))]
  unfold gotC
  rw [e]
  split
  · rename_i h0
    have hlt : (slotC L c name).1.toNat < c.vals.length := by
      unfold slotC at h0 ⊢
      split
      · rename_i a2
        rw [if_pos a2] at h0
        simp only at h0 ⊢
        obtain ⟨g1, -⟩ := idxQ_get (L := namesQ L c.num) (v := name.n) (k := (idxQ (namesQ L c.num) name.n).toNat) (by omega)
        omega
      · rename_i a2
        rw [if_neg a2, if_neg (fun e => absurd (hc.symm.trans e.1) (by decide))] at h0
        simp at h0
    simp [valAt, List.getD_eq_getElem?_getD, List.getElem?_append_left hlt]
  · rfl
theorem got_same (h : c.kind = 1 → namesQ M c.num = namesQ L c.num) : gotC M c name = gotC L c name := by
  have e : slotC M c name = slotC L c name := by
    unfold slotC
    by_cases a : c.kind = 1 ∧ name.kind = 4
    · rw [if_pos a, if_pos a, h a.1]
    · rw [if_neg a, if_neg a]
  unfold gotC
  rw [e]
end
section
variable {s : GState}
theorem slot_lt (h : cellsQ wordsT s = 0) {n : Nat} (hn : n < s.cells.length) {which : GVal} {k : Nat} (hk : (slotC s.shapes s.cells[n] which).1 = k) : k < s.cells[n].vals.length := by
  unfold slotC at hk
  split at hk
  · rename_i a1
    simp only at hk
    obtain ⟨g1, -⟩ := idxQ_get hk
    have := (obj_len h hn a1.1).2.2
    omega
  · split at hk
    · split at hk
      · simp only at hk; omega
      · simp only at hk; omega
    · simp only at hk; omega
theorem put_cases {of which v : GVal} (h : cellsQ wordsT s = 0) (ho : fitsB s of = true) (ht : (putW s of which v).2 = -1) : ∃ (n : Nat) (hn : n < s.cells.length), of = ⟨5, n⟩ ∧ cellAt s of.n = s.cells[n] ∧
    ((∃ k : Nat, slotC s.shapes s.cells[n] which = ((k : Int), -1) ∧ k < s.cells[n].vals.length ∧ (putW s of which v).1 = setCS s n ⟨s.cells[n].kind, s.cells[n].num, s.cells[n].vals.set k v, s.cells[n].frames⟩ s.shapes) ∨
     (s.cells[n].kind = 1 ∧ which.kind = 4 ∧ which.n ∉ namesQ s.shapes s.cells[n].num ∧ slotC s.shapes s.cells[n] which = (-1, -1) ∧ s.cells[n].vals.length < 100 ∧ ∃ M q, withP s.shapes s.cells[n].num which.n = (M, q, 0) ∧ (putW s of which v).1 = setCS s n ⟨s.cells[n].kind, q, s.cells[n].vals ++ [v], s.cells[n].frames⟩ M)) := by
  unfold putW at ht ⊢
  by_cases q1 : 0 ≤ (slotW s of which).2
  · rw [if_pos q1] at ht
    simp only at ht
    omega
  rw [if_neg q1] at ht ⊢
  obtain ⟨k5, hk⟩ := slot_kind ((slot_le of which).resolve_right q1)
  obtain ⟨n0, n1⟩ := fits_in ho k5
  obtain ⟨n, hn⟩ : ∃ n : Nat, of.n = n := ⟨of.n.toNat, by omega⟩
  have hnl : n < s.cells.length := by omega
  have hat : cellAt s of.n = s.cells[n] := by rw [hn]; exact at_nat hnl
  have htn : of.n.toNat = n := by omega
  have hsl : slotW s of which = slotC s.shapes s.cells[n] which := by rw [slotW_eq, if_pos k5, hat]
  refine ⟨n, hnl, by cases of; simp_all, hat, ?_⟩
  rw [hsl] at q1 hk ht ⊢
  rw [hat] at hk ht ⊢
  rw [htn] at ht ⊢
  have h2 : (slotC s.shapes s.cells[n] which).2 = -1 := by
    have := slot_le (s := s) of which
    rw [hsl] at this
    exact this.resolve_right q1
  by_cases q2 : 0 ≤ (slotC s.shapes s.cells[n] which).1
  · rw [if_pos q2] at ht ⊢
    left
    refine ⟨(slotC s.shapes s.cells[n] which).1.toNat, ?_, ?_, rfl⟩
    · refine Prod.ext ?_ h2
      simp only; omega
    · unfold slotC at q2 ⊢
      split
      · rename_i a1
        rw [if_pos a1] at q2
        simp only at q2 ⊢
        obtain ⟨g1, -⟩ := idxQ_get (L := namesQ s.shapes s.cells[n].num) (v := which.n) (k := (idxQ (namesQ s.shapes s.cells[n].num) which.n).toNat) (by omega)
        have := (obj_len h hnl a1.1).2.2
        omega
      · rename_i a1
        rw [if_neg a1] at q2
        split
        · rename_i a2
          rw [if_pos a2] at q2
          split
          · rename_i a3
            simp only
            omega
          · rename_i a3
            rw [if_neg a3] at q2
            simp at q2
        · rename_i a2
          rw [if_neg a2] at q2
          simp at q2
  · rw [if_neg q2] at ht ⊢
    right
    have k1 : s.cells[n].kind = 1 ∧ which.kind = 4 := hk.resolve_right fun e => q2 e.2.2
    by_cases q3 : (withP s.shapes s.cells[n].num which.n).2.2 ≠ 0 ∨ 100 ≤ s.cells[n].vals.length
    · rw [if_pos q3] at ht; cases ht
    rw [if_neg q3]
    have he : (withP s.shapes s.cells[n].num which.n).2.2 = 0 := Decidable.byContradiction fun e => q3 (.inl e)
    have hlen : s.cells[n].vals.length < 100 := Nat.lt_of_not_le fun e => q3 (.inr e)
    have hsc : slotC s.shapes s.cells[n] which = (idxQ (namesQ s.shapes s.cells[n].num) which.n, -1) := by unfold slotC; rw [if_pos k1]
    rw [hsc] at q2
    refine ⟨k1.1, k1.2, fun hm => q2 (idxQ_in.2 hm), by rw [hsc, idxQ_neg q2], hlen, (withP s.shapes s.cells[n].num which.n).1, (withP s.shapes s.cells[n].num which.n).2.1, ?_, rfl⟩
    exact Prod.ext rfl (Prod.ext rfl he)
theorem put_got {of which v : GVal} (h : cellsQ wordsT s = 0) (ho : fitsB s of = true) (ht : (putW s of which v).2 = -1) : getW (putW s of which v).1 of which = (v, -1) := by
  obtain ⟨n, hn, rfl, hat, hc⟩ := put_cases h ho ht
  rw [getW_eq, if_pos rfl]
  rcases hc with ⟨k, h1, h2, h3⟩ | ⟨h1, h2, h3, h4, h5, M, q, h6, h7⟩
  · rw [h3, setCS_at hn, if_pos (by simp)]
    exact got_set h1 h2
  · rw [h7, setCS_at hn, if_pos (by simp)]
    exact got_new h1 h2 h3 (obj_len h hn h1).2.2 (with_grows h6).2.2.1
theorem put_else {of which v : GVal} (h : cellsQ wordsT s = 0) (ho : fitsB s of = true) (ht : (putW s of which v).2 = -1) (other name : GVal) (hf : fitsB s other = true) :
    (getW (putW s of which v).1 other name).2 = (getW s other name).2 ∧ ((other = of ∧ name = which) ∨ (getW (putW s of which v).1 other name).1 = (getW s other name).1) := by
  by_cases e : other = of ∧ name = which
  · refine ⟨?_, .inl e⟩
    obtain ⟨rfl, rfl⟩ := e
    rw [put_got h ho ht]
    obtain ⟨n, hn, rfl, hat, hc⟩ := put_cases h ho ht
    rw [getW_eq, if_pos rfl, hat]
    rcases hc with ⟨k, h1, h2, h3⟩ | ⟨h1, h2, h3, h4, h5, M, q, h6, h7⟩
    · unfold gotC; rw [h1]; simp
    · unfold gotC; rw [h4]; simp
  · suffices hs : getW (putW s of which v).1 other name = getW s other name by rw [hs]; exact ⟨rfl, .inr rfl⟩
    obtain ⟨n, hn, rfl, hat, hc⟩ := put_cases h ho ht
    rw [getW_eq, getW_eq]
    by_cases k5 : other.kind = 5
    case neg => rw [if_neg k5, if_neg k5]
    rw [if_pos k5, if_pos k5]
    obtain ⟨m0, m1⟩ := fits_in hf k5
    obtain ⟨m, hm⟩ : ∃ m : Nat, other.n = m := ⟨other.n.toNat, by omega⟩
    have hml : m < s.cells.length := by omega
    have hatm : cellAt s other.n = s.cells[m] := by rw [hm]; exact at_nat hml
    by_cases hmn : m = n
    · subst hmn
      have hot : other = ⟨5, m⟩ := by cases other; simp_all
      have hne : name ≠ which := fun e2 => e ⟨hot, e2⟩
      rw [hatm]
      rcases hc with ⟨k, h1, h2, h3⟩ | ⟨h1, h2, h3, h4, h5, M, q, h6, h7⟩
      · rw [h3, setCS_at hn, if_pos (by omega)]
        exact got_set_ne h1 hne
      · rw [h7, setCS_at hn, if_pos (by omega)]
        exact got_new_ne h1 h2 (obj_len h hn h1).2.2 (with_grows h6).2.2.1 hne
    · rcases hc with ⟨k, h1, h2, h3⟩ | ⟨h1, h2, h3, h4, h5, M, q, h6, h7⟩
      · rw [h3, setCS_at hn, if_neg (by omega)]; rfl
      · rw [h7, setCS_at hn, if_neg (by omega), hatm]
        refine got_same fun k1 => ?_
        have := obj_len h hml k1
        exact (with_grows h6).2.2.2.1 _ this.1 this.2.1
end
end Go.Proofs.YtomhiphiogbbiaaGreatDoor

namespace Go.Proofs.YtomhiphiogbbiaaGreatDoor
open Go.RowKit Go
abbrev nilG : GVal := ⟨0, 0⟩
def GState.addC (s : GState) (c : GCell) : GState := ⟨s.cells ++ [c], s.shapes, s.texts, s.threads, s.ends, s.said, s.asked, s.steps⟩
def GState.withTx (s : GState) (l : List ByteArray) : GState := ⟨s.cells, s.shapes, l, s.threads, s.ends, s.said, s.asked, s.steps⟩
def GState.withEn (s : GState) (l : List GEnd) : GState := ⟨s.cells, s.shapes, s.texts, s.threads, l, s.said, s.asked, s.steps⟩
def setV (s : GState) (v : GVal) (l : List GVal) : GState := setCS s v.n.toNat ⟨(cellAt s v.n).kind, (cellAt s v.n).num, l, (cellAt s v.n).frames⟩ s.shapes
def makeW (s : GState) (c : GCell) : GState × GVal × Int := if 300 ≤ s.cells.length then (s, nilG, 4) else (s.addC c, ⟨5, s.cells.length⟩, -1)
noncomputable def internW (s : GState) (t : ByteArray) : GState × GVal × Int :=
  if 0 ≤ idxQ s.texts t then (s, ⟨4, idxQ s.texts t⟩, -1) else if 300 ≤ s.texts.length ∨ 200 < t.size then (s, nilG, 4) else (s.withTx (s.texts ++ [t]), ⟨4, s.texts.length⟩, -1)
def longW (s : GState) (v : GVal) : GState × GVal × Int :=
  if v.kind = 4 then (s, ⟨2, (s.texts.getD v.n.toNat ByteArray.empty).size⟩, -1) else if v.kind = 5 ∧ ((cellAt s v.n).kind = 2 ∨ (cellAt s v.n).kind = 1) then (s, ⟨2, (cellAt s v.n).vals.length⟩, -1) else (s, nilG, 0)
def pushW (s : GState) (a v : GVal) : GState × GVal × Int := if 100 ≤ (cellAt s a.n).vals.length then (s, nilG, 4) else (setV s a ((cellAt s a.n).vals ++ [v]), ⟨2, (cellAt s a.n).vals.length + 1⟩, -1)
def popW (s : GState) (a : GVal) : GState × GVal × Int := if (cellAt s a.n).vals.length = 0 then (s, nilG, -1) else (setV s a ((cellAt s a.n).vals.take ((cellAt s a.n).vals.length - 1)), valAt (cellAt s a.n).vals ((cellAt s a.n).vals.length - 1), -1)
noncomputable def keysW (s : GState) (a : GVal) : GState × GVal × Int := makeW s ⟨2, 0, (namesQ s.shapes (cellAt s a.n).num).map fun n => ⟨4, n⟩, []⟩
def atEndW (s : GState) (a f : GVal) : GState × GVal × Int := if 100 ≤ s.ends.length then (s, nilG, 4) else (s.withEn (s.ends ++ [⟨a.n, f⟩]), nilG, -1)
def keyAtK (l : List GVal) (key : GVal) : Nat → Int
  | 0 => -1
  | k + 1 => if valAt l (2 * k) = key then ((2 * k : Nat) : Int) else keyAtK l key k
def keyAt (l : List GVal) (key : GVal) : Int := keyAtK l key ((l.length + 1) / 2)
def keptV (l : List GVal) (key : GVal) : GVal := if keyAt l key < 0 then nilG else valAt l ((keyAt l key).toNat + 1)
def keptW (s : GState) (a key : GVal) : GState × GVal × Int := (s, keptV (cellAt s a.n).vals key, -1)
def keepL (l : List GVal) (key v : GVal) : List GVal :=
  if v = nilG then (if 0 ≤ keyAt l key then l.take (keyAt l key).toNat ++ l.drop ((keyAt l key).toNat + 2) else l) else if 0 ≤ keyAt l key then l.set ((keyAt l key).toNat + 1) v else l ++ [key, v]
def keepW (s : GState) (a key v : GVal) : GState × GVal × Int := (setV s a (keepL (cellAt s a.n).vals key v), nilG, -1)
section
variable {s : GState}
theorem vals_right (h : cellsQ wordsT s = 0) {n : Nat} (hn : n < s.cells.length) {l : List GVal} (hk : kindB s ⟨s.cells[n].kind, s.cells[n].num, l, s.cells[n].frames⟩ = true) (hl : ∀ v ∈ l, fitsB s v = true) (hm : manyB ⟨s.cells[n].kind, s.cells[n].num, l, s.cells[n].frames⟩ = false) :
    cellsQ wordsT (setCS s n ⟨s.cells[n].kind, s.cells[n].num, l, s.cells[n].frames⟩ s.shapes) = 0 := by
  obtain ⟨d, m, fl, nm⟩ := heap_cell h hn
  obtain ⟨d1, d2, d3, d4⟩ := cellB_parts d
  have hK : SameK s (setCS s n ⟨s.cells[n].kind, s.cells[n].num, l, s.cells[n].frames⟩ s.shapes) := setCS_k hn rfl (fun _ => rfl)
  refine set_cells h hn rfl (fun _ => rfl) fl nm (Nat.le_refl _) (fun _ _ => rfl) hm ?_
  simp only [cellB, Bool.and_eq_true, decide_eq_true_eq]
  rw [hK.fits, hK.frameFits]
  refine ⟨⟨⟨?_, d2⟩, List.all_eq_true.2 hl⟩, d4⟩
  unfold kindB at hk ⊢
  rw [hK.names]
  exact hk
theorem names_cell {v : GVal} {k : Int} (h : namesB s v k = true) : ∃ (n : Nat) (hn : n < s.cells.length), v = ⟨5, n⟩ ∧ cellAt s v.n = s.cells[n] ∧ s.cells[n].kind = k := by
  simp only [namesB, Bool.and_eq_true, decide_eq_true_eq] at h
  obtain ⟨⟨⟨h1, h2⟩, h3⟩, h4⟩ := h
  obtain ⟨n, hn⟩ : ∃ n : Nat, v.n = n := ⟨v.n.toNat, by omega⟩
  have hnl : n < s.cells.length := by omega
  have hat : cellAt s v.n = s.cells[n] := by rw [hn]; exact at_nat hnl
  exact ⟨n, hnl, by cases v; simp_all, hat, by rw [← hat]; exact h4⟩
theorem list_right (h : cellsQ wordsT s = 0) {a : GVal} (ha : namesB s a 2 = true) {l : List GVal} (hl : ∀ v ∈ l, fitsB s v = true) (hn : l.length ≤ 100) : cellsQ wordsT (setV s a l) = 0 := by
  obtain ⟨n, hnl, rfl, hat, hk⟩ := names_cell ha
  unfold setV
  rw [hat, Int.toNat_natCast]
  obtain ⟨d, m, fl, nm⟩ := heap_cell h hnl
  obtain ⟨d1, d2, d3, d4⟩ := cellB_parts d
  refine vals_right h hnl ?_ hl (by simp [manyB]; omega)
  unfold kindB at d1 ⊢
  simp only [hk] at d1 ⊢
  rw [if_neg (by omega), if_neg (by omega), if_pos trivial] at d1 ⊢
  exact d1
theorem cell_vals (h : cellsQ wordsT s = 0) {n : Nat} (hn : n < s.cells.length) : (∀ v ∈ s.cells[n].vals, fitsB s v = true) ∧ (s.cells[n].kind ≠ 7 → s.cells[n].vals.length ≤ 100) ∧ s.cells[n].vals.length ≤ 600 := by
  obtain ⟨d, m, fl, nm⟩ := heap_cell h hn
  obtain ⟨d1, d2, d3, d4⟩ := cellB_parts d
  refine ⟨List.all_eq_true.1 d3, fun e => ?_, ?_⟩
  · simp [manyB, e] at m; omega
  · simp only [manyB, Bool.and_eq_false_iff, decide_eq_false_iff_not, Bool.or_eq_false_iff] at m
    omega
theorem push_right (h : cellsQ wordsT s = 0) {a v : GVal} (ha : namesB s a 2 = true) (hv : fitsB s v = true) : cellsQ wordsT (pushW s a v).1 = 0 := by
  unfold pushW
  split
  · exact h
  · rename_i h1
    obtain ⟨n, hnl, rfl, hat, hk⟩ := names_cell ha
    rw [hat] at h1 ⊢
    refine list_right h ha (fun u hu => ?_) (by simp; omega)
    rcases List.mem_append.1 hu with hu | hu
    · exact (cell_vals h hnl).1 u hu
    · rw [List.mem_singleton] at hu; subst hu; exact hv
end
end Go.Proofs.YtomhiphiogbbiaaGreatDoor

namespace Go.Proofs.YtomhiphiogbbiaaGreatDoor.Flt
open Ieee Ieee.Datum
abbrev Dbl := Ieee.double
theorem bn : Dbl.binade = 4503599627370496 := by decide +kernel
theorem inr : Dbl.infRung = 9218868437227405312 := by decide +kernel
def whole (m : Nat) (i : Int) : Nat := (m <<< i.toNat) / 2 ^ (-i).toNat
def sv (s : Bool) (M : Nat) : Int := if s then -(M : Int) else M
def inW (N : Int) : Bool := decide (-2147483648 ≤ N) && decide (N ≤ 2147483647)
theorem order_nan {x y : Nat} {s : Bool} {t : Nat} (hx : Dbl.read x = .nan s t) : Dbl.order x y = none := by
  unfold Format.order
  rw [hx]; rfl
end Go.Proofs.YtomhiphiogbbiaaGreatDoor.Flt

