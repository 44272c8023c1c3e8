/- Several texts in one. -/
import Derived.Test.YtomhiphiogbbiaaGreatDoorMa
import Derived.Test.YtomhiphiogbbiaaGreatDoorMe
import Derived.Test.YtomhiphiogbbiaaGreatDoorMf
import Derived.Test.YtomhiphiogbbiaaGreatDoorMw
set_option linter.unusedSimpArgs false
set_option linter.unusedVariables false
set_option maxRecDepth 100000
set_option maxHeartbeats 16000000
namespace Go.Proofs.YtomhiphiogbbiaaGreatDoor
open Go.RowKit
theorem getD_app {α : Type} {L X : List α} {i : Nat} (d : α) (h : i < L.length) : (L ++ X).getD i d = L.getD i d := by
  simp [List.getD, List.getElem?_append_left h]
theorem getD_last {α : Type} {L : List α} {x : α} (d : α) : (L ++ [x]).getD L.length d = x := by
  simp [List.getD]
theorem fst_app {L X : List Shp} {i : Nat} (h : i < L.length) : fstD (L ++ X) i = fstD L i := by unfold fstD; rw [getD_app _ h]
theorem snd_app {L X : List Shp} {i : Nat} (h : i < L.length) : sndD (L ++ X) i = sndD L i := by unfold sndD; rw [getD_app _ h]
theorem Ahead.app {L X : List Shp} {s : Nat} (h : Ahead L s) (hs : s < L.length) : Ahead (L ++ X) s := fun j h0 h1 => by
  rw [fst_app (by omega)]
  exact h j h0 h1
theorem names_app {L X : List Shp} : ∀ {s : Nat}, Ahead L s → s < L.length → namesP (L ++ X) s = namesP L s := by
  intro s
  induction s using Nat.strongRecOn with
  | _ s ih =>
    intro h hs
    by_cases h0 : s = 0
    · subst h0; rfl
    · have hu := h s (by omega) (Nat.le_refl _)
      rw [namesP_step (h.app hs) (by omega), namesP_step h (by omega), fst_app hs, snd_app hs, ih _ (by omega) (h.to (by omega)) (by omega)]
theorem fits_app {L X : List Shp} {j : Nat} (h0 : 0 < j) (hj : j < L.length) (ha : okTo L j) (h : fits L j) : fits (L ++ X) j := by
  obtain ⟨a, b, c, d, e⟩ := h
  refine ⟨by rw [fst_app hj]; exact a, by rw [fst_app hj]; exact b, by rw [snd_app hj]; exact c, ?_, ?_⟩
  · rw [fst_app hj, snd_app hj, names_app (ha.ahead (by omega)) (by omega)]; exact d
  · rw [getD_app _ hj, List.take_append_of_le_length (by omega)]; exact e
theorem okay_app {L : List Shp} {a n : Int} (h : okay L) (h0 : 0 ≤ a) (h1 : a < L.length) (hn : 0 ≤ n) (hm : n ∉ namesP L a.toNat) (hx : (a, n) ∉ L) : okay (L ++ [(a, n)]) := by
  obtain ⟨l0, r, ok⟩ := h
  have ef : fstD (L ++ [(a, n)]) L.length = a := by unfold fstD; rw [getD_last]
  have es : sndD (L ++ [(a, n)]) L.length = n := by unfold sndD; rw [getD_last]
  refine ⟨by simp, by rw [getD_app _ l0]; exact r, fun j h2 h3 => ?_⟩
  rw [List.length_append] at h3
  simp at h3
  by_cases e : j = L.length
  · subst e
    refine ⟨by rw [ef]; exact h0, by rw [ef]; exact h1, by rw [es]; exact hn, ?_, ?_⟩
    · rw [ef, es, names_app (ok.ahead (by omega)) (by omega)]; exact hm
    · rw [getD_last, List.take_left]; exact hx
  · exact fits_app h2 (by omega) (fun i h4 h5 => ok i h4 (by omega)) (ok j h2 (by omega))
theorem idx_mem' {α : Type} [DecidableEq α] {L : List α} {p : α} (d : α) (h : p ∈ L) : ∃ k : Nat, k < L.length ∧ idx L p = k ∧ L.getD k d = p := by
  have hl : L.idxOf p < L.length := List.idxOf_lt_length_of_mem h
  refine ⟨L.idxOf p, hl, by unfold idx; rw [if_pos h], ?_⟩
  simp [List.getD, List.getElem?_eq_getElem hl]
theorem idx_mem {L : List Shp} {p : Shp} (h : p ∈ L) : ∃ k : Nat, k < L.length ∧ idx L p = k ∧ L.getD k (0, 0) = p := idx_mem' (0, 0) h
theorem namesQ_in {L : List Shp} {s : Nat} (hf : faultP L = 0) (h : s < L.length) : namesQ L s = namesP L s := by
  unfold namesQ; rw [if_neg (by omega)]; simp
theorem with_ok {L M : List Shp} {a n k : Int} (h : withP L a n = (M, k, 0)) :
    faultP L = 0 ∧ 0 ≤ a ∧ a < L.length ∧ 0 ≤ n ∧ n ∉ namesP L a.toNat ∧ (((a, n) ∈ L ∧ M = L ∧ k = idx L (a, n)) ∨ ((a, n) ∉ L ∧ L.length < 100 ∧ M = L ++ [(a, n)] ∧ k = L.length)) := by
  unfold withP at h
  split at h
  · rename_i hf
    simp only [Prod.mk.injEq] at h
    exact absurd h.2.2 hf
  · rename_i hf
    have hf : faultP L = 0 := by simpa using hf
    split at h
    · simp at h
    · rename_i h1
      split at h
      · simp at h
      · rename_i h2
        refine ⟨hf, by omega, by omega, by omega, h2, ?_⟩
        split at h
        · rename_i h3
          simp only [Prod.mk.injEq, and_true] at h
          exact .inl ⟨h3, h.1.symm, h.2.symm⟩
        · rename_i h3
          split at h
          · simp at h
          · rename_i h4
            simp only [Prod.mk.injEq, and_true] at h
            have := (faultP_ok hf).1
            exact .inr ⟨h3, by omega, h.1.symm, h.2.symm⟩
theorem with_mem {L : List Shp} {a n : Int} (hf : faultP L = 0) (h0 : 0 ≤ a) (h1 : a < L.length) (h2 : 0 ≤ n) (h3 : n ∉ namesP L a.toNat) (h4 : (a, n) ∈ L) : withP L a n = (L, idx L (a, n), 0) := by
  unfold withP; rw [if_neg (by simp [hf]), if_neg (by omega), if_neg h3, if_pos h4]
theorem with_grows {L M : List Shp} {a n k : Int} (h : withP L a n = (M, k, 0)) :
    faultP M = 0 ∧ withP M a n = (M, k, 0) ∧ namesQ M k = namesQ L a ++ [n] ∧ (∀ o : Int, 0 ≤ o → o < L.length → namesQ M o = namesQ L o) ∧ L.length ≤ M.length ∧ 0 ≤ k ∧ k < M.length ∧ M.length ≤ 100 ∧ (L <+: M) ∧ (a, n) ∈ M := by
  obtain ⟨hf, h0, h1, h2, h3, h4⟩ := with_ok h
  obtain ⟨hl, hok⟩ := faultP_ok hf
  obtain ⟨s, rfl⟩ : ∃ s : Nat, a = s := ⟨a.toNat, by omega⟩
  rw [Int.toNat_natCast] at h3
  rcases h4 with ⟨hm, rfl, rfl⟩ | ⟨hm, h5, rfl, rfl⟩
  · obtain ⟨k, hk, he, hg⟩ := idx_mem hm
    have hk0 : 0 < k := by
      rcases Nat.eq_zero_or_pos k with e | e
      · subst e
        rw [hok.2.1] at hg
        have := congrArg Prod.fst hg
        simp only at this
        omega
      · exact e
    have hfs : fstD M k = s := by unfold fstD; rw [hg]
    have hsn : sndD M k = n := by unfold sndD; rw [hg]
    refine ⟨hf, with_mem hf (by omega) h1 h2 (by simpa using h3) hm, ?_, fun o _ _ => rfl, Nat.le_refl _, by omega, by omega, hl, List.prefix_refl _, hm⟩
    rw [he, namesQ_in hf hk, namesQ_in hf (by omega), namesP_step (hok.2.2.ahead hk) hk0, hfs, hsn, Int.toNat_natCast]
  · have hl2 : (L ++ [((s : Int), n)]).length = L.length + 1 := by simp
    have ho2 := okay_app hok h0 h1 h2 (by simpa using h3) hm
    have hf2 : faultP (L ++ [((s : Int), n)]) = 0 := fault_ok (by omega) ho2
    have hmm : ((s : Int), n) ∈ L ++ [((s : Int), n)] := by simp
    have hn2 : ∀ j, j < L.length → namesP (L ++ [((s : Int), n)]) j = namesP L j := fun j hj => names_app (hok.2.2.ahead hj) hj
    refine ⟨hf2, ?_, ?_, ?_, by omega, by omega, by omega, by omega, List.prefix_append _ _, hmm⟩
    · have hw := with_mem hf2 h0 (by omega) h2 (by rw [Int.toNat_natCast, hn2 _ (by omega)]; exact h3) hmm
      rw [hw]
      have hi : idx (L ++ [((s : Int), n)]) ((s : Int), n) = L.length := idx_at (0, 0) (by omega) (by rw [List.take_left]; exact hm) (getD_last _)
      rw [hi]
    · rw [namesQ_in hf2 (by omega), namesQ_in hf (by omega), namesP_step (ho2.2.2.ahead (by omega)) (by omega)]
      have e1 : fstD (L ++ [((s : Int), n)]) L.length = s := by unfold fstD; rw [getD_last]
      have e2 : sndD (L ++ [((s : Int), n)]) L.length = n := by unfold sndD; rw [getD_last]
      rw [e1, e2, Int.toNat_natCast, hn2 _ (by omega)]
    · intro o o0 o1
      obtain ⟨j, rfl⟩ : ∃ j : Nat, o = j := ⟨o.toNat, by omega⟩
      rw [namesQ_in hf2 (by omega), namesQ_in hf (by omega), hn2 _ (by omega)]
end Go.Proofs.YtomhiphiogbbiaaGreatDoor

namespace Go.Proofs.YtomhiphiogbbiaaGreatDoor
open Go.RowKit
theorem Ints.at {w : World} {A : Option Addr} {n cap : Nat} {L : List Int} (h : Ints w (.slice A n cap) L) (h0 : 0 < L.length) : ∃ b o, A = some ⟨b, o, none⟩ ∧ b < w.heap.size ∧ ∀ i, i < L.length → w.cell? ⟨b, o + i, none⟩ = some (.int .i64 (L.getD i 0)) := by
  obtain ⟨A', cap', e, -, -, -, hA⟩ := h.open
  simp only [Value.slice.injEq] at e
  obtain ⟨rfl, -, -⟩ := e
  exact hA h0
end Go.Proofs.YtomhiphiogbbiaaGreatDoor

namespace Go.Proofs.YtomhiphiogbbiaaGreatDoor
open Go.RowKit Go
noncomputable def slotW (s : GState) (of which : GVal) : Int × Int :=
  if of.kind = 5 ∧ (cellAt s of.n).kind = 1 ∧ which.kind = 4 then (idxQ (namesQ s.shapes (cellAt s of.n).num) which.n, -1)
  else if of.kind = 5 ∧ (cellAt s of.n).kind = 2 ∧ which.kind = 2 then (if 0 ≤ which.n ∧ which.n < (cellAt s of.n).vals.length then (which.n, -1) else (-1, 3))
  else (-1, 0)
def setCS (s : GState) (n : Nat) (c : GCell) (l : List Shp) : GState := ⟨s.cells.set n c, l, s.texts, s.threads, s.ends, s.said, s.asked, s.steps⟩
noncomputable def putW (s : GState) (of which v : GVal) : GState × Int :=
  if 0 ≤ (slotW s of which).2 then (s, (slotW s of which).2)
  else if 0 ≤ (slotW s of which).1 then (setCS s of.n.toNat ⟨(cellAt s of.n).kind, (cellAt s of.n).num, (cellAt s of.n).vals.set (slotW s of which).1.toNat v, (cellAt s of.n).frames⟩ s.shapes, -1)
  else if (withP s.shapes (cellAt s of.n).num which.n).2.2 ≠ 0 ∨ 100 ≤ (cellAt s of.n).vals.length then (s, 4)
  else (setCS s of.n.toNat ⟨(cellAt s of.n).kind, (withP s.shapes (cellAt s of.n).num which.n).2.1, (cellAt s of.n).vals ++ [v], (cellAt s of.n).frames⟩ (withP s.shapes (cellAt s of.n).num which.n).1, -1)
section
variable {s : GState}
theorem setCS_at {n : Nat} {c : GCell} {l : List Shp} {m : Int} (hn : n < s.cells.length) : cellAt (setCS s n c l) m = if m.toNat = n then c else cellAt s m := by
  unfold cellAt setCS
  rw [List.getD_eq_getElem?_getD, List.getD_eq_getElem?_getD, List.getElem?_set]
  by_cases e : n = m.toNat
  · subst e; simp [hn]
  · rw [if_neg e, if_neg (fun h => e h.symm)]
theorem setCS_k {n : Nat} {c : GCell} {l : List Shp} (hn : n < s.cells.length) (hk : c.kind = s.cells[n].kind) (hm : c.kind = 4 ∨ c.kind = 5 → c.num = s.cells[n].num) : SameK s (setCS s n c l) := by
  have hat : ∀ m : Int, m.toNat = n → cellAt s m = s.cells[n] := fun m e => by
    unfold cellAt
    rw [List.getD_eq_getElem?_getD, e, List.getElem?_eq_getElem hn]; rfl
  refine ⟨rfl, by simp [setCS], rfl, fun m => ?_, fun m h => ?_⟩
  · rw [setCS_at hn]
    split
    · rename_i e; rw [hat m e, hk]
    · rfl
  · rw [setCS_at hn]
    split
    · rename_i e
      rw [hat m e] at h ⊢
      exact hm (by rw [hk]; exact h)
    · rfl
theorem slot_le (of which : GVal) : (slotW s of which).2 = -1 ∨ 0 ≤ (slotW s of which).2 := by
  unfold slotW
  split
  · exact .inl rfl
  · split
    · split
      · exact .inl rfl
      · exact .inr (by decide)
    · exact .inr (by decide)
theorem mem_setCS {n : Nat} {c c' : GCell} {l : List Shp} (h : c' ∈ (setCS s n c l).cells) : c' ∈ s.cells ∨ c' = c := List.mem_or_eq_of_mem_set h
theorem set_cells {n : Nat} {c : GCell} {l : List Shp} (h : cellsQ wordsT s = 0) (hn : n < s.cells.length) (hk : c.kind = s.cells[n].kind) (hm : c.kind = 4 ∨ c.kind = 5 → c.num = s.cells[n].num) (hl : faultP l = 0) (hnm : ∀ x ∈ l, x.2 < s.texts.length)
    (hle : s.shapes.length ≤ l.length) (hnq : ∀ o : Nat, o < s.shapes.length → namesP l o = namesP s.shapes o) (hmy : manyB c = false) (hc : cellB (setCS s n c l) c = true) : cellsQ wordsT (setCS s n c l) = 0 := by
  have hK : SameK s (setCS s n c l) := setCS_k hn hk hm
  rw [cellsQ_iff] at h ⊢
  obtain ⟨c1, c2, c3, c4, c5, c6, c7⟩ := h
  refine ⟨?_, hl, c3, ?_, ?_, ?_, ?_⟩
  · simp only [heapLarge, Bool.or_eq_false_iff, decide_eq_false_iff_not] at c1 ⊢
    obtain ⟨⟨⟨⟨⟨b1, b2⟩, b3⟩, b4⟩, b5⟩, b6⟩ := c1
    refine ⟨⟨⟨⟨⟨by rw [hK.cl]; exact b1, b2⟩, b3⟩, b4⟩, b5⟩, ?_⟩
    rw [List.any_eq_false] at b6 ⊢
    intro c' h'
    rcases mem_setCS h' with h' | rfl
    · exact b6 c' h'
    · rw [hmy]; decide
  · rw [List.all_eq_true]
    intro x hx
    exact decide_eq_true (show x.2 < (s.texts.length : Int) from hnm x hx)
  · rw [List.all_eq_true] at c5 ⊢
    intro c' h'
    rcases mem_setCS h' with h' | rfl
    · obtain ⟨d1, d2, d3, d4⟩ := cellB_parts (c5 c' h')
      simp only [cellB, Bool.and_eq_true, decide_eq_true_eq]
      rw [hK.fits, hK.frameFits]
      refine ⟨⟨⟨?_, d2⟩, d3⟩, d4⟩
      unfold kindB at d1 ⊢
      rw [hK.names]
      by_cases e1 : c'.kind = 1
      · rw [if_neg (by omega), if_pos e1] at d1 ⊢
        simp only [Bool.and_eq_true, decide_eq_true_eq] at d1 ⊢
        obtain ⟨d1, d5⟩ := d1
        simp only [btw, Bool.and_eq_true, decide_eq_true_eq] at d1 ⊢
        have hs : (setCS s n c l).shapes = l := rfl
        refine ⟨?_, ?_⟩
        · rw [hs]; exact ⟨d1.1, by omega⟩
        · rw [d5]
          unfold shapeLen
          rw [hs, hnq _ (by omega)]
      · by_cases e0 : c'.kind = 0
        · rw [if_pos e0] at d1 ⊢; exact d1
        · rw [if_neg e0, if_neg e1] at d1 ⊢; exact d1
    · exact hc
  · have e : saidB (setCS s n c l) = saidB s := by funext v; unfold saidB; rw [hK.fits]
    rw [e]; exact c6
  · refine all_mono c7 fun e _ he => ?_
    simp only [endB, Bool.and_eq_true] at he ⊢
    rw [hK.names, hK.cl]
    exact he
theorem heap_cell (h : cellsQ wordsT s = 0) {n : Nat} (hn : n < s.cells.length) : cellB s s.cells[n] = true ∧ manyB s.cells[n] = false ∧ faultP s.shapes = 0 ∧ ∀ x ∈ s.shapes, x.2 < s.texts.length := by
  obtain ⟨c1, c2, c3, c4, c5, c6, c7⟩ := cellsQ_iff.1 h
  refine ⟨List.all_eq_true.1 c5 _ (List.getElem_mem hn), ?_, c2, fun x hx => by simpa using List.all_eq_true.1 c4 x hx⟩
  simp only [heapLarge, Bool.or_eq_false_iff, List.any_eq_false] at c1
  simpa using c1.2 _ (List.getElem_mem hn)
theorem slot_kind {of which : GVal} (h : (slotW s of which).2 = -1) : of.kind = 5 ∧ (((cellAt s of.n).kind = 1 ∧ which.kind = 4) ∨ ((cellAt s of.n).kind = 2 ∧ which.kind = 2 ∧ 0 ≤ (slotW s of which).1)) := by
  unfold slotW at h ⊢
  split at h
  · rename_i e; exact ⟨e.1, .inl e.2⟩
  · rename_i e1
    rw [if_neg e1]
    split at h
    · rename_i e
      rw [if_pos e]
      split at h
      · rename_i e3
        rw [if_pos e3]
        exact ⟨e.1, .inr ⟨e.2.1, e.2.2, e3.1⟩⟩
      · cases h
    · cases h
theorem put_right {of which v : GVal} (h : cellsQ wordsT s = 0) (ho : fitsB s of = true) (hw : fitsB s which = true) (hv : fitsB s v = true) (ht : (putW s of which v).2 = -1) : cellsQ wordsT (putW s of which v).1 = 0 := by
  have hin := fits_in ho
  unfold putW at ht ⊢
  by_cases q1 : 0 ≤ (slotW s of which).2
  · rw [if_pos q1] at ht
    simp only at ht
    omega
  rw [if_neg q1] at ht ⊢
  obtain ⟨k5, hk⟩ := slot_kind ((slot_le of which).resolve_right q1)
  obtain ⟨n0, n1⟩ := hin k5
  obtain ⟨n, hn⟩ : ∃ n : Nat, of.n = n := ⟨of.n.toNat, by omega⟩
  have hnl : n < s.cells.length := by omega
  have hat : cellAt s of.n = s.cells[n] := by rw [hn]; exact at_nat hnl
  obtain ⟨d, m, fl, nm⟩ := heap_cell h hnl
  obtain ⟨d1, d2, d3, d4⟩ := cellB_parts d
  have htn : of.n.toNat = n := by omega
  rw [hat] at hk ht ⊢
  rw [htn] at ht ⊢
  generalize hc : s.cells[n] = c at *
  have hkind : c.kind = 1 ∨ c.kind = 2 := by rcases hk with hk | hk; exact .inl hk.1; exact .inr hk.1
  by_cases q2 : 0 ≤ (slotW s of which).1
  · rw [if_pos q2] at ht ⊢
    have hK : SameK s (setCS s n ⟨c.kind, c.num, c.vals.set (slotW s of which).1.toNat v, c.frames⟩ s.shapes) := setCS_k hnl (by rw [hc]) (fun _ => by rw [hc])
    refine set_cells h hnl (by rw [hc]) (fun _ => by rw [hc]) fl nm (Nat.le_refl _) (fun _ _ => rfl) ?_ ?_
    · simpa [manyB] using m
    · simp only [cellB, Bool.and_eq_true, decide_eq_true_eq]
      rw [hK.fits, hK.frameFits]
      refine ⟨⟨⟨?_, d2⟩, ?_⟩, d4⟩
      · unfold kindB at d1 ⊢
        rcases hkind with e | e
        · simp only [e] at d1 ⊢
          rw [if_neg (by omega), if_pos trivial] at d1 ⊢
          simp only [Bool.and_eq_true, decide_eq_true_eq] at d1 ⊢
          exact ⟨d1.1, by rw [List.length_set]; exact d1.2⟩
        · simp only [e] at d1 ⊢
          rw [if_neg (by omega), if_neg (by omega), if_pos trivial] at d1 ⊢
          exact d1
      · rw [List.all_eq_true] at d3 ⊢
        intro x hx
        rcases List.mem_or_eq_of_mem_set hx with hx | rfl
        · exact d3 x hx
        · exact hv
  · rw [if_neg q2] at ht ⊢
    have k1 : c.kind = 1 ∧ which.kind = 4 := hk.resolve_right fun e => q2 e.2.2
    by_cases q3 : (withP s.shapes c.num which.n).2.2 ≠ 0 ∨ 100 ≤ c.vals.length
    · rw [if_pos q3] at ht; cases ht
    rw [if_neg q3] at ht ⊢
    have he : (withP s.shapes c.num which.n).2.2 = 0 := Decidable.byContradiction fun e => q3 (.inl e)
    have hlen : c.vals.length < 100 := Nat.lt_of_not_le fun e => q3 (.inr e)
    obtain ⟨M, k, e0, hM⟩ : ∃ M k e0, withP s.shapes c.num which.n = (M, k, e0) := ⟨_, _, _, rfl⟩
    rw [hM] at he ⊢
    simp only at he ⊢
    subst he
    obtain ⟨g1, -, g3, g4, g5, g6, g7, g8, g9, -⟩ := with_grows hM
    obtain ⟨f1, f2, f3, -, -, f6⟩ := with_ok hM
    have hK : SameK s (setCS s n ⟨c.kind, k, c.vals ++ [v], c.frames⟩ M) := setCS_k hnl (by rw [hc]) (fun e => by simp only at e; omega)
    have hwt : which.n < s.texts.length := by
      simp only [fitsB, Bool.and_eq_true] at hw
      have := hw.2
      rw [if_pos k1.2] at this
      simpa using this
    refine set_cells h hnl (by rw [hc]) (fun e => by simp only at e; omega) g1 (fun x hx => ?_) g5 (fun o ho2 => ?_) ?_ ?_
    · rcases f6 with ⟨-, rfl, -⟩ | ⟨-, -, rfl, -⟩
      · exact nm x hx
      · rcases List.mem_append.1 hx with hx | hx
        · exact nm x hx
        · rw [List.mem_singleton] at hx; subst hx; exact hwt
    · have := g4 o (by omega) (by omega)
      rwa [namesQ_in g1 (by omega), namesQ_in f1 ho2] at this
    · simp [manyB]; omega
    · simp only [cellB, Bool.and_eq_true, decide_eq_true_eq]
      rw [hK.fits, hK.frameFits]
      refine ⟨⟨⟨?_, ?_⟩, ?_⟩, d4⟩
      · unfold kindB at d1 ⊢
        simp only [k1.1] at d1 ⊢
        rw [if_neg (by omega), if_pos trivial] at d1 ⊢
        simp only [Bool.and_eq_true, decide_eq_true_eq, btw] at d1 ⊢
        have hs : (setCS s n ⟨1, k, c.vals ++ [v], c.frames⟩ M).shapes = M := rfl
        obtain ⟨kn, rfl⟩ : ∃ kn : Nat, k = kn := ⟨k.toNat, by omega⟩
        obtain ⟨cn, hcn⟩ : ∃ cn : Nat, c.num = cn := ⟨c.num.toNat, by omega⟩
        rw [hcn] at g3 d1
        rw [namesQ_in g1 (by omega), namesQ_in f1 (by omega)] at g3
        refine ⟨by rw [hs]; exact ⟨by omega, by omega⟩, ?_⟩
        unfold shapeLen at d1 ⊢
        rw [hs, Int.toNat_natCast, g3]
        have := d1.2
        simp at this ⊢
        omega
      · simp only [framesOf] at d2 ⊢
        rw [if_neg (by omega)] at d2 ⊢
        exact d2
      · rw [List.all_eq_true] at d3 ⊢
        intro x hx
        rcases List.mem_append.1 hx with hx | hx
        · exact d3 x hx
        · rw [List.mem_singleton] at hx; subst hx; exact hv
end
end Go.Proofs.YtomhiphiogbbiaaGreatDoor

namespace Go.Proofs.YtomhiphiogbbiaaGreatDoor
open Go.RowKit Go
section
variable {α : Type} [DecidableEq α] {L : List α} {u v a : α}
theorem idxQ_get {k : Nat} (h : idxQ L v = k) : ∃ hk : k < L.length, L[k] = v := by
  unfold idxQ at h
  split at h
  · rename_i j hj
    obtain rfl : j = k := by omega
    obtain ⟨hk, h1, -⟩ := List.findIdx?_eq_some_iff_getElem.1 hj
    exact ⟨hk, (of_decide_eq_true h1).symm⟩
  · omega
theorem idxQ_neg (h : ¬ 0 ≤ idxQ L v) : idxQ L v = -1 := by
  unfold idxQ at h ⊢
  split
  · rename_i k hk
    rw [hk] at h
    simp only at h
    omega
  · rfl
theorem idxQ_new (h : a ∉ L) : idxQ (L ++ [a]) a = L.length := by
  refine idxQ_at (by simp) (fun j hj hjl e => ?_) (by simp)
  rw [List.getElem_append_left hjl] at e
  exact h (e ▸ List.getElem_mem hjl)
end
noncomputable def slotC (L : List Shp) (c : GCell) (which : GVal) : Int × Int :=
  if c.kind = 1 ∧ which.kind = 4 then (idxQ (namesQ L c.num) which.n, -1) else if c.kind = 2 ∧ which.kind = 2 then (if 0 ≤ which.n ∧ which.n < c.vals.length then (which.n, -1) else (-1, 3)) else (-1, 0)
noncomputable def getW (s : GState) (of which : GVal) : GVal × Int := if 0 ≤ (slotW s of which).1 then (valAt (cellAt s of.n).vals (slotW s of which).1.toNat, -1) else (⟨0, 0⟩, (slotW s of which).2)
section
variable {s : GState}
theorem slotW_eq (of which : GVal) : slotW s of which = if of.kind = 5 then slotC s.shapes (cellAt s of.n) which else (-1, 0) := by
  unfold slotW slotC
  by_cases e : of.kind = 5 <;> simp [e]
theorem obj_len (h : cellsQ wordsT s = 0) {n : Nat} (hn : n < s.cells.length) (hk : s.cells[n].kind = 1) : 0 ≤ s.cells[n].num ∧ s.cells[n].num < s.shapes.length ∧ (namesQ s.shapes s.cells[n].num).length = s.cells[n].vals.length := by
  obtain ⟨d, m, fl, nm⟩ := heap_cell h hn
  obtain ⟨d1, d2, d3, d4⟩ := cellB_parts d
  unfold kindB at d1
  rw [if_neg (by omega), if_pos hk] at d1
  simp only [Bool.and_eq_true, decide_eq_true_eq, btw] at d1
  obtain ⟨d1, d5⟩ := d1
  have d6 : 0 ≤ s.cells[n].num ∧ s.cells[n].num < s.shapes.length := ⟨d1.1, by omega⟩
  refine ⟨d6.1, d6.2, ?_⟩
  obtain ⟨k, hk'⟩ : ∃ k : Nat, s.cells[n].num = k := ⟨s.cells[n].num.toNat, by omega⟩
  rw [hk', namesQ_in fl (by omega)]
  unfold shapeLen at d5
  rw [hk', Int.toNat_natCast] at d5
  omega
end
section
variable {L M : List Shp} {c : GCell} {which name v : GVal}
end
section
variable {s : GState}
theorem slot_lt (h : cellsQ wordsT s = 0) {n : Nat} (hn : n < s.cells.length) {which : GVal} {k : Nat} (hk : (slotC s.shapes s.cells[n] which).1 = k) : k < s.cells[n].vals.length := by
  unfold slotC at hk
  split at hk
  · rename_i a1
    simp only at hk
    obtain ⟨g1, -⟩ := idxQ_get hk
    have := (obj_len h hn a1.1).2.2
    omega
  · split at hk
    · split at hk
      · simp only at hk; omega
      · simp only at hk; omega
    · simp only at hk; omega
theorem put_cases {of which v : GVal} (h : cellsQ wordsT s = 0) (ho : fitsB s of = true) (ht : (putW s of which v).2 = -1) : ∃ (n : Nat) (hn : n < s.cells.length), of = ⟨5, n⟩ ∧ cellAt s of.n = s.cells[n] ∧
    ((∃ k : Nat, slotC s.shapes s.cells[n] which = ((k : Int), -1) ∧ k < s.cells[n].vals.length ∧ (putW s of which v).1 = setCS s n ⟨s.cells[n].kind, s.cells[n].num, s.cells[n].vals.set k v, s.cells[n].frames⟩ s.shapes) ∨
     (s.cells[n].kind = 1 ∧ which.kind = 4 ∧ which.n ∉ namesQ s.shapes s.cells[n].num ∧ slotC s.shapes s.cells[n] which = (-1, -1) ∧ s.cells[n].vals.length < 100 ∧ ∃ M q, withP s.shapes s.cells[n].num which.n = (M, q, 0) ∧ (putW s of which v).1 = setCS s n ⟨s.cells[n].kind, q, s.cells[n].vals ++ [v], s.cells[n].frames⟩ M)) := by
  unfold putW at ht ⊢
  by_cases q1 : 0 ≤ (slotW s of which).2
  · rw [if_pos q1] at ht
    simp only at ht
    omega
  rw [if_neg q1] at ht ⊢
  obtain ⟨k5, hk⟩ := slot_kind ((slot_le of which).resolve_right q1)
  obtain ⟨n0, n1⟩ := fits_in ho k5
  obtain ⟨n, hn⟩ : ∃ n : Nat, of.n = n := ⟨of.n.toNat, by omega⟩
  have hnl : n < s.cells.length := by omega
  have hat : cellAt s of.n = s.cells[n] := by rw [hn]; exact at_nat hnl
  have htn : of.n.toNat = n := by omega
  have hsl : slotW s of which = slotC s.shapes s.cells[n] which := by rw [slotW_eq, if_pos k5, hat]
  refine ⟨n, hnl, by cases of; simp_all, hat, ?_⟩
  rw [hsl] at q1 hk ht ⊢
  rw [hat] at hk ht ⊢
  rw [htn] at ht ⊢
  have h2 : (slotC s.shapes s.cells[n] which).2 = -1 := by
    have := slot_le (s := s) of which
    rw [hsl] at this
    exact this.resolve_right q1
  by_cases q2 : 0 ≤ (slotC s.shapes s.cells[n] which).1
  · rw [if_pos q2] at ht ⊢
    left
    refine ⟨(slotC s.shapes s.cells[n] which).1.toNat, ?_, ?_, rfl⟩
    · refine Prod.ext ?_ h2
      simp only; omega
    · unfold slotC at q2 ⊢
      split
      · rename_i a1
        rw [if_pos a1] at q2
        simp only at q2 ⊢
        obtain ⟨g1, -⟩ := idxQ_get (L := namesQ s.shapes s.cells[n].num) (v := which.n) (k := (idxQ (namesQ s.shapes s.cells[n].num) which.n).toNat) (by omega)
        have := (obj_len h hnl a1.1).2.2
        omega
      · rename_i a1
        rw [if_neg a1] at q2
        split
        · rename_i a2
          rw [if_pos a2] at q2
          split
          · rename_i a3
            simp only
            omega
          · rename_i a3
            rw [if_neg a3] at q2
            simp at q2
        · rename_i a2
          rw [if_neg a2] at q2
          simp at q2
  · rw [if_neg q2] at ht ⊢
    right
    have k1 : s.cells[n].kind = 1 ∧ which.kind = 4 := hk.resolve_right fun e => q2 e.2.2
    by_cases q3 : (withP s.shapes s.cells[n].num which.n).2.2 ≠ 0 ∨ 100 ≤ s.cells[n].vals.length
    · rw [if_pos q3] at ht; cases ht
    rw [if_neg q3]
    have he : (withP s.shapes s.cells[n].num which.n).2.2 = 0 := Decidable.byContradiction fun e => q3 (.inl e)
    have hlen : s.cells[n].vals.length < 100 := Nat.lt_of_not_le fun e => q3 (.inr e)
    have hsc : slotC s.shapes s.cells[n] which = (idxQ (namesQ s.shapes s.cells[n].num) which.n, -1) := by unfold slotC; rw [if_pos k1]
    rw [hsc] at q2
    refine ⟨k1.1, k1.2, fun hm => q2 (idxQ_in.2 hm), by rw [hsc, idxQ_neg q2], hlen, (withP s.shapes s.cells[n].num which.n).1, (withP s.shapes s.cells[n].num which.n).2.1, ?_, rfl⟩
    exact Prod.ext rfl (Prod.ext rfl he)
end
end Go.Proofs.YtomhiphiogbbiaaGreatDoor

namespace Go.Proofs.YtomhiphiogbbiaaGreatDoor
open Go.RowKit Go
abbrev nilG : GVal := ⟨0, 0⟩
def GState.addC (s : GState) (c : GCell) : GState := ⟨s.cells ++ [c], s.shapes, s.texts, s.threads, s.ends, s.said, s.asked, s.steps⟩
def GState.withTx (s : GState) (l : List ByteArray) : GState := ⟨s.cells, s.shapes, l, s.threads, s.ends, s.said, s.asked, s.steps⟩
def GState.withEn (s : GState) (l : List GEnd) : GState := ⟨s.cells, s.shapes, s.texts, s.threads, l, s.said, s.asked, s.steps⟩
def setV (s : GState) (v : GVal) (l : List GVal) : GState := setCS s v.n.toNat ⟨(cellAt s v.n).kind, (cellAt s v.n).num, l, (cellAt s v.n).frames⟩ s.shapes
def makeW (s : GState) (c : GCell) : GState × GVal × Int := if 300 ≤ s.cells.length then (s, nilG, 4) else (s.addC c, ⟨5, s.cells.length⟩, -1)
noncomputable def internW (s : GState) (t : ByteArray) : GState × GVal × Int :=
  if 0 ≤ idxQ s.texts t then (s, ⟨4, idxQ s.texts t⟩, -1) else if 300 ≤ s.texts.length ∨ 200 < t.size then (s, nilG, 4) else (s.withTx (s.texts ++ [t]), ⟨4, s.texts.length⟩, -1)
def longW (s : GState) (v : GVal) : GState × GVal × Int :=
  if v.kind = 4 then (s, ⟨2, (s.texts.getD v.n.toNat ByteArray.empty).size⟩, -1) else if v.kind = 5 ∧ ((cellAt s v.n).kind = 2 ∨ (cellAt s v.n).kind = 1) then (s, ⟨2, (cellAt s v.n).vals.length⟩, -1) else (s, nilG, 0)
def pushW (s : GState) (a v : GVal) : GState × GVal × Int := if 100 ≤ (cellAt s a.n).vals.length then (s, nilG, 4) else (setV s a ((cellAt s a.n).vals ++ [v]), ⟨2, (cellAt s a.n).vals.length + 1⟩, -1)
def popW (s : GState) (a : GVal) : GState × GVal × Int := if (cellAt s a.n).vals.length = 0 then (s, nilG, -1) else (setV s a ((cellAt s a.n).vals.take ((cellAt s a.n).vals.length - 1)), valAt (cellAt s a.n).vals ((cellAt s a.n).vals.length - 1), -1)
noncomputable def keysW (s : GState) (a : GVal) : GState × GVal × Int := makeW s ⟨2, 0, (namesQ s.shapes (cellAt s a.n).num).map fun n => ⟨4, n⟩, []⟩
def atEndW (s : GState) (a f : GVal) : GState × GVal × Int := if 100 ≤ s.ends.length then (s, nilG, 4) else (s.withEn (s.ends ++ [⟨a.n, f⟩]), nilG, -1)
def keyAtK (l : List GVal) (key : GVal) : Nat → Int
  | 0 => -1
  | k + 1 => if valAt l (2 * k) = key then ((2 * k : Nat) : Int) else keyAtK l key k
def keyAt (l : List GVal) (key : GVal) : Int := keyAtK l key ((l.length + 1) / 2)
def keptV (l : List GVal) (key : GVal) : GVal := if keyAt l key < 0 then nilG else valAt l ((keyAt l key).toNat + 1)
def keptW (s : GState) (a key : GVal) : GState × GVal × Int := (s, keptV (cellAt s a.n).vals key, -1)
def keepL (l : List GVal) (key v : GVal) : List GVal :=
  if v = nilG then (if 0 ≤ keyAt l key then l.take (keyAt l key).toNat ++ l.drop ((keyAt l key).toNat + 2) else l) else if 0 ≤ keyAt l key then l.set ((keyAt l key).toNat + 1) v else l ++ [key, v]
def keepW (s : GState) (a key v : GVal) : GState × GVal × Int := (setV s a (keepL (cellAt s a.n).vals key v), nilG, -1)
theorem unp_take : ∀ (ps : List (GVal × GVal)) (j : Nat), (unp ps).take (2 * j) = unp (ps.take j)
  | [], j => by simp
  | q :: ps, 0 => by simp
  | q :: ps, j + 1 => by
    rw [show 2 * (j + 1) = 2 * j + 1 + 1 by omega, unp_cons, List.take_succ_cons, List.take_succ_cons, List.take_succ_cons, unp_cons, unp_take ps j]
theorem unp_drop : ∀ (ps : List (GVal × GVal)) (j : Nat), (unp ps).drop (2 * j) = unp (ps.drop j)
  | [], j => by simp
  | q :: ps, 0 => by simp
  | q :: ps, j + 1 => by
    rw [show 2 * (j + 1) = 2 * j + 1 + 1 by omega, unp_cons, List.drop_succ_cons, List.drop_succ_cons, List.drop_succ_cons, unp_drop ps j]
theorem unp_set : ∀ (ps : List (GVal × GVal)) (j : Nat) (h : j < ps.length) (v : GVal), (unp ps).set (2 * j + 1) v = unp (ps.set j (ps[j].1, v))
  | q :: ps, 0, _, v => by simp
  | q :: ps, j + 1, h, v => by
    rw [show 2 * (j + 1) + 1 = 2 * j + 1 + 1 + 1 by omega, unp_cons, List.set_cons_succ, List.set_cons_succ, List.set_cons_succ, unp_cons, unp_set ps j (by simpa using h) v]
    simp
theorem keyAtK_spec (ps : List (GVal × GVal)) (key : GVal) : ∀ k, k ≤ ps.length → (keyAtK (unp ps) key k = -1 ∧ ∀ j (h : j < ps.length), j < k → ps[j].1 ≠ key) ∨ ∃ j, ∃ h : j < ps.length, ps[j].1 = key ∧ keyAtK (unp ps) key k = ((2 * j : Nat) : Int)
  | 0, _ => .inl ⟨rfl, fun j _ h => absurd h (by omega)⟩
  | k + 1, hk => by
    have hv := (unp_val (ps := ps) (j := k) (by omega)).1
    by_cases e : ps[k].1 = key
    · exact .inr ⟨k, by omega, e, by rw [keyAtK, hv, if_pos e]⟩
    · rw [keyAtK, hv, if_neg e]
      rcases keyAtK_spec ps key k (by omega) with ⟨h1, h2⟩ | h
      · refine .inl ⟨h1, fun j hj hjk => ?_⟩
        by_cases e2 : j = k
        · subst e2; exact e
        · exact h2 j hj (by omega)
      · exact .inr h
theorem keyAt_spec (ps : List (GVal × GVal)) (key : GVal) : (keyAt (unp ps) key = -1 ∧ ∀ q ∈ ps, q.1 ≠ key) ∨ ∃ j, ∃ h : j < ps.length, ps[j].1 = key ∧ keyAt (unp ps) key = ((2 * j : Nat) : Int) := by
  have e : ((unp ps).length + 1) / 2 = ps.length := by rw [unp_len]; omega
  unfold keyAt
  rw [e]
  rcases keyAtK_spec ps key ps.length (Nat.le_refl _) with ⟨h1, h2⟩ | h
  · refine .inl ⟨h1, fun q hq => ?_⟩
    obtain ⟨j, hj, rfl⟩ := List.getElem_of_mem hq
    exact h2 j hj hj
  · exact .inr h
theorem kept_none {ps : List (GVal × GVal)} {key : GVal} (h : ∀ q ∈ ps, q.1 ≠ key) : keptV (unp ps) key = nilG := by
  unfold keptV
  rcases keyAt_spec ps key with ⟨h1, -⟩ | ⟨j, hj, h1, h2⟩
  · rw [h1]; rfl
  · exact absurd h1 (h _ (List.getElem_mem hj))
theorem kept_mem {ps : List (GVal × GVal)} {key v : GVal} (hu : ∀ q ∈ ps, q.1 = key → q = (key, v)) (h : (key, v) ∈ ps) : keptV (unp ps) key = v := by
  unfold keptV
  rcases keyAt_spec ps key with ⟨-, h1⟩ | ⟨j, hj, h1, h2⟩
  · exact absurd rfl (h1 _ h)
  · rw [h2, if_neg (by omega), Int.toNat_natCast, (unp_val hj).2, hu _ (List.getElem_mem hj) h1]
def KeysOk (ps : List (GVal × GVal)) : Prop := (∀ q ∈ ps, q.1.kind = 5) ∧ (ps.map (·.1.n)).Nodup
theorem keys_at {ps : List (GVal × GVal)} (h : KeysOk ps) {i j : Nat} (hi : i < ps.length) (hj : j < ps.length) (e : ps[i].1 = ps[j].1) : i = j := by
  have h2 := List.pairwise_iff_getElem.1 h.2
  rcases Nat.lt_trichotomy i j with hl | hl | hl
  · exact (h2 i j (by simpa using hi) (by simpa using hj) hl (by simp [e])).elim
  · exact hl
  · exact (h2 j i (by simpa using hj) (by simpa using hi) hl (by simp [e])).elim
theorem keys_uniq {ps : List (GVal × GVal)} (h : KeysOk ps) {q r : GVal × GVal} (hq : q ∈ ps) (hr : r ∈ ps) (e : q.1 = r.1) : q = r := by
  obtain ⟨i, hi, rfl⟩ := List.getElem_of_mem hq
  obtain ⟨j, hj, rfl⟩ := List.getElem_of_mem hr
  obtain rfl := keys_at h hi hj e
  rfl
theorem keep_pairs {ps : List (GVal × GVal)} (h : KeysOk ps) (key v : GVal) (hk : key.kind = 5) : ∃ qs, keepL (unp ps) key v = unp qs ∧ KeysOk qs ∧ (∀ q, q.1 ≠ key → (q ∈ qs ↔ q ∈ ps)) ∧ (∀ q ∈ qs, q.1 = key → q = (key, v)) ∧ (v ≠ nilG → (key, v) ∈ qs) ∧ (v = nilG → ∀ q ∈ qs, q.1 ≠ key) := by
  unfold keepL
  rcases keyAt_spec ps key with ⟨h1, h2⟩ | ⟨j, hj, h1, h2⟩
  · rw [h1]
    by_cases hv : v = nilG
    · rw [if_pos hv, if_neg (by decide)]
      exact ⟨ps, rfl, h, fun q _ => Iff.rfl, fun q hq e => absurd e (h2 q hq), fun e => absurd hv e, fun _ => h2⟩
    · rw [if_neg hv, if_neg (by decide)]
      refine ⟨ps ++ [(key, v)], by rw [unp_app]; rfl, ⟨fun q hq => ?_, ?_⟩, fun q hq => ?_, fun q hq e => ?_, fun _ => by simp, fun e => absurd e hv⟩
      · rcases List.mem_append.1 hq with hq | hq
        · exact h.1 q hq
        · rw [List.mem_singleton] at hq; subst hq; exact hk
      · rw [List.map_append]
        refine List.nodup_append.2 ⟨h.2, by simp, fun a ha b hb e => ?_⟩
        obtain ⟨q, hq, rfl⟩ := List.mem_map.1 ha
        simp at hb
        subst hb
        have := h.1 q hq
        exact h2 q hq (by cases hq1 : q.1; cases key; simp_all)
      · simp only [List.mem_append, List.mem_singleton]
        exact ⟨fun e => e.resolve_right fun e => hq (by rw [e]), .inl⟩
      · rcases List.mem_append.1 hq with hq | hq
        · exact absurd e (h2 q hq)
        · exact List.mem_singleton.1 hq
  · rw [h2]
    by_cases hv : v = nilG
    · rw [if_pos hv, if_pos (by omega), Int.toNat_natCast, unp_take, show 2 * j + 2 = 2 * (j + 1) by omega, unp_drop, ← unp_app]
      have hne : ∀ q ∈ ps.take j ++ ps.drop (j + 1), q.1 ≠ key := fun q hq e => by
        rcases List.mem_append.1 hq with hq | hq
        · obtain ⟨i, hi, rfl⟩ := List.getElem_of_mem hq
          rw [List.getElem_take] at e
          simp at hi
          have := keys_at h (show i < ps.length by omega) hj (by rw [e, h1])
          omega
        · obtain ⟨i, hi, rfl⟩ := List.getElem_of_mem hq
          rw [List.getElem_drop] at e
          simp at hi
          have := keys_at h (show j + 1 + i < ps.length by omega) hj (by rw [e, h1])
          omega
      have hsub : (ps.take j ++ ps.drop (j + 1)).Sublist ps := by
        have := (List.Sublist.refl (ps.take j)).append (List.drop_sublist 1 (ps.drop j))
        rw [List.drop_drop, List.take_append_drop] at this
        simpa [Nat.add_comm] using this
      refine ⟨_, rfl, ⟨fun q hq => h.1 q (hsub.subset hq), List.Sublist.nodup (hsub.map _) h.2⟩, fun q hq => ⟨fun e => hsub.subset e, fun e => ?_⟩, fun q hq e => absurd e (hne q hq), fun e => absurd hv e, fun _ => hne⟩
      obtain ⟨i, hi, rfl⟩ := List.getElem_of_mem e
      have hij : i ≠ j := fun e2 => by subst e2; exact hq h1
      rcases Nat.lt_or_gt_of_ne hij with hl | hl
      · exact List.mem_append_left _ (List.mem_iff_getElem.2 ⟨i, by simp; omega, by rw [List.getElem_take]⟩)
      · exact List.mem_append_right _ (List.mem_iff_getElem.2 ⟨i - (j + 1), by simp; omega, by rw [List.getElem_drop]; congr 1; omega⟩)
    · rw [if_neg hv, if_pos (by omega), Int.toNat_natCast, unp_set ps j hj v]
      refine ⟨_, rfl, ⟨fun q hq => ?_, ?_⟩, fun q hq => ?_, fun q hq e => ?_, fun _ => ?_, fun e => absurd e hv⟩
      · rcases List.mem_or_eq_of_mem_set hq with hq | rfl
        · exact h.1 q hq
        · show ps[j].1.kind = 5
          exact h.1 _ (List.getElem_mem hj)
      · rw [List.map_set]
        have : (ps.map (·.1.n)).set j (ps[j].1.n) = ps.map (·.1.n) := by
          have hj' : j < (ps.map (·.1.n)).length := by simpa using hj
          rw [show ps[j].1.n = (ps.map (·.1.n))[j] by simp, List.set_getElem_self]
        rw [this]; exact h.2
      · constructor
        · intro e
          rcases List.mem_or_eq_of_mem_set e with e | e
          · exact e
          · rw [e] at hq; exact absurd h1 hq
        · intro e
          obtain ⟨i, hi, rfl⟩ := List.getElem_of_mem e
          have hij : j ≠ i := fun e2 => by subst e2; exact hq h1
          exact List.mem_iff_getElem.2 ⟨i, by simpa using hi, by rw [List.getElem_set_ne hij]⟩
      · obtain ⟨i, hi, rfl⟩ := List.getElem_of_mem hq
        simp at hi
        by_cases hij : j = i
        · subst hij; rw [List.getElem_set_self]; rw [h1]
        · rw [List.getElem_set_ne hij] at e
          exact absurd (keys_at h hi hj (by rw [e, h1])).symm hij
      · exact List.mem_iff_getElem.2 ⟨j, by simpa using hj, by rw [List.getElem_set_self, h1]⟩
theorem nat_bound : ∀ (n : Nat) (l : List Nat), l.Nodup → (∀ x ∈ l, x < n) → l.length ≤ n
  | 0, l, _, h => by
    cases l with
    | nil => simp
    | cons x l => exact absurd (h x List.mem_cons_self) (by omega)
  | n + 1, l, hn, h => by
    have h1 := nat_bound n (l.erase n) (hn.erase n) fun x hx => by
      have := (hn.mem_erase_iff).1 hx
      have := h x this.2
      omega
    have := List.length_erase (a := n) (l := l)
    split at this <;> omega
theorem keys_bound {ps : List (GVal × GVal)} (h : KeysOk ps) {n : Nat} (hb : ∀ q ∈ ps, 0 ≤ q.1.n ∧ q.1.n < n) : ps.length ≤ n := by
  have := nat_bound n (ps.map fun q => q.1.n.toNat) ?_ ?_
  · simpa using this
  · have h2 := List.pairwise_iff_getElem.1 h.2
    refine List.pairwise_iff_getElem.2 fun i j hi hj hij e => ?_
    simp at hi hj e
    have a1 := hb _ (List.getElem_mem hi)
    have a2 := hb _ (List.getElem_mem hj)
    exact h2 i j (by simpa using hi) (by simpa using hj) hij (by simp; omega)
  · intro x hx
    obtain ⟨q, hq, rfl⟩ := List.mem_map.1 hx
    have := hb q hq
    omega
section
variable {s : GState}
theorem vals_right (h : cellsQ wordsT s = 0) {n : Nat} (hn : n < s.cells.length) {l : List GVal} (hk : kindB s ⟨s.cells[n].kind, s.cells[n].num, l, s.cells[n].frames⟩ = true) (hl : ∀ v ∈ l, fitsB s v = true) (hm : manyB ⟨s.cells[n].kind, s.cells[n].num, l, s.cells[n].frames⟩ = false) :
    cellsQ wordsT (setCS s n ⟨s.cells[n].kind, s.cells[n].num, l, s.cells[n].frames⟩ s.shapes) = 0 := by
  obtain ⟨d, m, fl, nm⟩ := heap_cell h hn
  obtain ⟨d1, d2, d3, d4⟩ := cellB_parts d
  have hK : SameK s (setCS s n ⟨s.cells[n].kind, s.cells[n].num, l, s.cells[n].frames⟩ s.shapes) := setCS_k hn rfl (fun _ => rfl)
  refine set_cells h hn rfl (fun _ => rfl) fl nm (Nat.le_refl _) (fun _ _ => rfl) hm ?_
  simp only [cellB, Bool.and_eq_true, decide_eq_true_eq]
  rw [hK.fits, hK.frameFits]
  refine ⟨⟨⟨?_, d2⟩, List.all_eq_true.2 hl⟩, d4⟩
  unfold kindB at hk ⊢
  rw [hK.names]
  exact hk
theorem add_right (h : cellsQ wordsT s = 0) {c : GCell} (h1 : s.cells.length < 300) (hm : manyB c = false) (hc : cellB s c = true) : cellsQ wordsT (s.addC c) = 0 := by
  have e : s.addC c = withMore s [c] [] := by simp [GState.addC, withMore]
  rw [e]
  rw [cellsQ_iff] at h ⊢
  obtain ⟨a1, a2, a3, a4, a5, a6, a7⟩ := h
  refine ⟨?_, a2, by simpa [withMore] using a3, by simpa [withMore] using a4, ?_, ?_, ?_⟩
  · simp only [heapLarge, Bool.or_eq_false_iff, decide_eq_false_iff_not] at a1 ⊢
    obtain ⟨⟨⟨⟨⟨b1, b2⟩, b3⟩, b4⟩, b5⟩, b6⟩ := a1
    refine ⟨⟨⟨⟨⟨by simp [withMore]; omega, by simpa [withMore] using b2⟩, b3⟩, b4⟩, by simpa [withMore] using b5⟩, ?_⟩
    simp only [withMore, List.any_append, b6, Bool.false_or]
    simp [hm]
  · simp only [withMore, List.all_append, Bool.and_eq_true]
    refine ⟨all_mono a5 fun c _ hc => cell_more hc, ?_⟩
    simp only [List.all_cons, List.all_nil, Bool.and_true]
    exact cell_more hc
  · exact all_mono a6 fun v _ hv => by
      simp only [saidB, Bool.and_eq_true] at hv ⊢
      exact ⟨hv.1, fits_more hv.2⟩
  · exact all_mono a7 fun e _ he => by
      simp only [endB, Bool.and_eq_true] at he ⊢
      refine ⟨?_, names_more he.2⟩
      have := he.1
      simp [btw, withMore] at this ⊢; omega
theorem text_right (h : cellsQ wordsT s = 0) {t : ByteArray} (h2 : s.texts.length < 300) (h3 : t.size ≤ 200) (h4 : t ∉ s.texts) : cellsQ wordsT (s.withTx (s.texts ++ [t])) = 0 := by
  have e : s.withTx (s.texts ++ [t]) = withMore s [] [t] := by simp [GState.withTx, withMore]
  rw [e]
  rw [cellsQ_iff] at h ⊢
  obtain ⟨a1, a2, a3, a4, a5, a6, a7⟩ := h
  refine ⟨?_, a2, ?_, ?_, ?_, ?_, ?_⟩
  · simp only [heapLarge, Bool.or_eq_false_iff, decide_eq_false_iff_not] at a1 ⊢
    obtain ⟨⟨⟨⟨⟨b1, b2⟩, b3⟩, b4⟩, b5⟩, b6⟩ := a1
    refine ⟨⟨⟨⟨⟨by simpa [withMore] using b1, by simp [withMore]; omega⟩, b3⟩, b4⟩, ?_⟩, by simpa [withMore] using b6⟩
    simp only [withMore, List.any_append, b5, Bool.false_or]; simp; omega
  · simp only [wordsB, Bool.and_eq_true, decide_eq_true_eq] at a3 ⊢
    have hl : wordsT.length ≤ s.texts.length := by have := congrArg List.length a3.1; rw [List.length_take] at this; omega
    refine ⟨by simp only [withMore]; rw [List.take_append_of_le_length hl]; exact a3.1, ?_⟩
    simp only [withMore]
    refine List.nodup_append.2 ⟨a3.2, by simp, fun a ha b hb => ?_⟩
    obtain rfl := List.mem_singleton.1 hb
    rintro rfl
    exact h4 ha
  · exact all_mono a4 fun x _ hx => by simp [withMore] at hx ⊢; omega
  · have e2 : (withMore s [] [t]).cells = s.cells := List.append_nil _
    rw [e2]
    exact all_mono a5 fun c _ hc => cell_more hc
  · exact all_mono a6 fun v _ hv => by
      simp only [saidB, Bool.and_eq_true] at hv ⊢
      exact ⟨hv.1, fits_more hv.2⟩
  · exact all_mono a7 fun e _ he => by
      simp only [endB, Bool.and_eq_true] at he ⊢
      refine ⟨?_, names_more he.2⟩
      have := he.1
      simp [btw, withMore] at this ⊢; omega
theorem end_right (h : cellsQ wordsT s = 0) {e : GEnd} (h1 : s.ends.length < 100) (he : endB s e = true) : cellsQ wordsT (s.withEn (s.ends ++ [e])) = 0 := by
  rw [cellsQ_iff] at h ⊢
  obtain ⟨a1, a2, a3, a4, a5, a6, a7⟩ := h
  refine ⟨?_, a2, a3, a4, a5, a6, ?_⟩
  · simp only [heapLarge, Bool.or_eq_false_iff, decide_eq_false_iff_not] at a1 ⊢
    obtain ⟨⟨⟨⟨⟨b1, b2⟩, b3⟩, b4⟩, b5⟩, b6⟩ := a1
    exact ⟨⟨⟨⟨⟨b1, b2⟩, b3⟩, by simp [GState.withEn]; omega⟩, b5⟩, b6⟩
  · simp only [GState.withEn, List.all_append, Bool.and_eq_true]
    exact ⟨a7, by simp only [List.all_cons, List.all_nil, Bool.and_true]; exact he⟩
theorem names_cell {v : GVal} {k : Int} (h : namesB s v k = true) : ∃ (n : Nat) (hn : n < s.cells.length), v = ⟨5, n⟩ ∧ cellAt s v.n = s.cells[n] ∧ s.cells[n].kind = k := by
  simp only [namesB, Bool.and_eq_true, decide_eq_true_eq] at h
  obtain ⟨⟨⟨h1, h2⟩, h3⟩, h4⟩ := h
  obtain ⟨n, hn⟩ : ∃ n : Nat, v.n = n := ⟨v.n.toNat, by omega⟩
  have hnl : n < s.cells.length := by omega
  have hat : cellAt s v.n = s.cells[n] := by rw [hn]; exact at_nat hnl
  exact ⟨n, hnl, by cases v; simp_all, hat, by rw [← hat]; exact h4⟩
theorem list_right (h : cellsQ wordsT s = 0) {a : GVal} (ha : namesB s a 2 = true) {l : List GVal} (hl : ∀ v ∈ l, fitsB s v = true) (hn : l.length ≤ 100) : cellsQ wordsT (setV s a l) = 0 := by
  obtain ⟨n, hnl, rfl, hat, hk⟩ := names_cell ha
  unfold setV
  rw [hat, Int.toNat_natCast]
  obtain ⟨d, m, fl, nm⟩ := heap_cell h hnl
  obtain ⟨d1, d2, d3, d4⟩ := cellB_parts d
  refine vals_right h hnl ?_ hl (by simp [manyB]; omega)
  unfold kindB at d1 ⊢
  simp only [hk] at d1 ⊢
  rw [if_neg (by omega), if_neg (by omega), if_pos trivial] at d1 ⊢
  exact d1
theorem cell_vals (h : cellsQ wordsT s = 0) {n : Nat} (hn : n < s.cells.length) : (∀ v ∈ s.cells[n].vals, fitsB s v = true) ∧ (s.cells[n].kind ≠ 7 → s.cells[n].vals.length ≤ 100) ∧ s.cells[n].vals.length ≤ 600 := by
  obtain ⟨d, m, fl, nm⟩ := heap_cell h hn
  obtain ⟨d1, d2, d3, d4⟩ := cellB_parts d
  refine ⟨List.all_eq_true.1 d3, fun e => ?_, ?_⟩
  · simp [manyB, e] at m; omega
  · simp only [manyB, Bool.and_eq_false_iff, decide_eq_false_iff_not, Bool.or_eq_false_iff] at m
    omega
theorem push_right (h : cellsQ wordsT s = 0) {a v : GVal} (ha : namesB s a 2 = true) (hv : fitsB s v = true) : cellsQ wordsT (pushW s a v).1 = 0 := by
  unfold pushW
  split
  · exact h
  · rename_i h1
    obtain ⟨n, hnl, rfl, hat, hk⟩ := names_cell ha
    rw [hat] at h1 ⊢
    refine list_right h ha (fun u hu => ?_) (by simp; omega)
    rcases List.mem_append.1 hu with hu | hu
    · exact (cell_vals h hnl).1 u hu
    · rw [List.mem_singleton] at hu; subst hu; exact hv
theorem pop_right (h : cellsQ wordsT s = 0) {a : GVal} (ha : namesB s a 2 = true) : cellsQ wordsT (popW s a).1 = 0 ∧ fitsB s (popW s a).2.1 = true := by
  unfold popW
  split
  · exact ⟨h, rfl⟩
  · rename_i h1
    obtain ⟨n, hnl, rfl, hat, hk⟩ := names_cell ha
    rw [hat] at h1 ⊢
    obtain ⟨c1, c2, c3⟩ := cell_vals h hnl
    have := c2 (by omega)
    refine ⟨list_right h ha (fun u hu => c1 u (List.mem_of_mem_take hu)) (by simp; omega), ?_⟩
    refine c1 _ ?_
    unfold valAt
    rw [List.getD_eq_getElem?_getD, List.getElem?_eq_getElem (by omega)]
    exact List.getElem_mem _
theorem keep_right (h : cellsQ wordsT s = 0) {a key v : GVal} (ha : namesB s a 7 = true) (hk5 : key.kind = 5) (hkf : fitsB s key = true) (hv : fitsB s v = true) : cellsQ wordsT (keepW s a key v).1 = 0 := by
  obtain ⟨n, hnl, rfl, hat, hk⟩ := names_cell ha
  unfold keepW setV
  simp only
  rw [hat, Int.toNat_natCast]
  obtain ⟨d, m, fl, nm⟩ := heap_cell h hnl
  obtain ⟨d1, d2, d3, d4⟩ := cellB_parts d
  obtain ⟨c1, c2, c3⟩ := cell_vals h hnl
  obtain ⟨w1, w2⟩ := kind_weak d1 hk
  obtain ⟨ps, e, p1, p2⟩ := weak_iff.1 w2
  obtain ⟨qs, g1, g2, g3, g4, g5, g6⟩ := keep_pairs (ps := ps) ⟨p1, p2⟩ key v hk5
  have hall : ∀ u ∈ unp qs, fitsB s u = true := fun u hu => by
    obtain ⟨q, hq, hu⟩ := unp_mem.1 hu
    have : q ∈ ps ∨ q = (key, v) := by
      by_cases e : q.1 = key
      · exact .inr (g4 q hq e)
      · exact .inl ((g3 q e).1 hq)
    rcases this with hq' | rfl
    · exact c1 u (by rw [e]; exact unp_mem.2 ⟨q, hq', hu⟩)
    · rcases hu with rfl | rfl
      · exact hkf
      · exact hv
  rw [e, g1]
  refine vals_right h hnl ?_ hall ?_
  · unfold kindB at d1 ⊢
    simp only [hk] at d1 ⊢
    rw [if_neg (by omega), if_neg (by omega), if_neg (by omega), if_neg (by omega), if_neg (by omega), if_neg (by omega), if_neg (by omega), if_pos trivial] at d1 ⊢
    simp only [Bool.and_eq_true] at d1 ⊢
    exact ⟨d1.1, weak_iff.2 ⟨qs, rfl, g2.1, g2.2⟩⟩
  · have hb := keys_bound g2 (n := s.cells.length) fun q hq => fits_in (hall q.1 (unp_mem.2 ⟨q, hq, .inl rfl⟩)) (g2.1 q hq)
    have hs : s.cells.length ≤ 300 := by
      have := (cellsQ_iff.1 h).1
      simp only [heapLarge, Bool.or_eq_false_iff, decide_eq_false_iff_not] at this
      omega
    simp [manyB, hk, unp_len]
    omega
theorem kept_kept (h : cellsQ wordsT s = 0) {a key v : GVal} (ha : namesB s a 7 = true) (hk5 : key.kind = 5) (other : GVal) : (keptW (keepW s a key v).1 a other).2.1 = if other = key then v else (keptW s a other).2.1 := by
  obtain ⟨n, hnl, rfl, hat, hk⟩ := names_cell ha
  obtain ⟨d, m, fl, nm⟩ := heap_cell h hnl
  obtain ⟨d1, d2, d3, d4⟩ := cellB_parts d
  obtain ⟨w1, w2⟩ := kind_weak d1 hk
  obtain ⟨ps, e, p1, p2⟩ := weak_iff.1 w2
  obtain ⟨qs, g1, g2, g3, g4, g5, g6⟩ := keep_pairs (ps := ps) ⟨p1, p2⟩ key v hk5
  have e1 : (cellAt (keepW s ⟨5, n⟩ key v).1 (n : Int)).vals = unp qs := by
    unfold keepW setV
    simp only
    rw [setCS_at (by simpa using hnl), if_pos (by simp), hat, e, g1]
  unfold keptW
  simp only
  rw [e1]
  have hat' : cellAt s (n : Int) = s.cells[n] := hat
  rw [hat', e]
  by_cases c : other = key
  · subst c
    rw [if_pos rfl]
    by_cases hv : v = nilG
    · rw [hv]; exact kept_none (g6 hv)
    · exact kept_mem g4 (g5 hv)
  · rw [if_neg c]
    by_cases hx : ∃ q ∈ ps, q.1 = other
    · obtain ⟨q, hq, rfl⟩ := hx
      obtain ⟨q1, q2⟩ := q
      rw [kept_mem (key := q1) (v := q2) (fun r hr er => keys_uniq ⟨p1, p2⟩ hr hq er) hq]
      exact kept_mem (fun r hr er => keys_uniq g2 hr ((g3 _ c).2 hq) er) ((g3 _ c).2 hq)
    · have hx' : ∀ q ∈ ps, q.1 ≠ other := fun q hq e => hx ⟨q, hq, e⟩
      rw [kept_none hx']
      refine kept_none fun q hq e2 => ?_
      exact hx' q ((g3 q (by rw [e2]; exact c)).1 hq) e2
end
end Go.Proofs.YtomhiphiogbbiaaGreatDoor

namespace Go.Proofs.YtomhiphiogbbiaaGreatDoor.Flt
open Ieee Ieee.Datum
abbrev Dbl := Ieee.double
theorem sw : Dbl.signWeight = 9223372036854775808 := by decide +kernel
theorem bn : Dbl.binade = 4503599627370496 := by decide +kernel
theorem lp : Dbl.leastPlace = -1074 := by decide +kernel
theorem inr : Dbl.infRung = 9218868437227405312 := by decide +kernel
theorem shl_pow (a k : Nat) : a <<< k = a * 2 ^ k := Nat.shiftLeft_eq a k
theorem cut_zero (s : Bool) (n drop : Nat) : Toward.zero.cut s n drop = n / 2 ^ drop := by
  unfold Toward.cut
  simp only [Bool.toNat_false, Nat.add_zero, Nat.one_shiftLeft]
  rcases Nat.le_total drop (n.log2 + 2) with h | h
  · rw [Nat.min_eq_left h]
  · rw [Nat.min_eq_right h]
    have h1 : n < 2 ^ (n.log2 + 2) := Nat.lt_of_lt_of_le (Nat.lt_log2_self (n := n)) (Nat.pow_le_pow_right (by omega) (by omega))
    have h2 : n < 2 ^ drop := Nat.lt_of_lt_of_le h1 (Nat.pow_le_pow_right (by omega) h)
    rw [Nat.div_eq_of_lt h1, Nat.div_eq_of_lt h2]
theorem cut_even0 (s : Bool) (n : Nat) : Toward.even.cut s n 0 = n := by
  unfold Toward.cut
  simp
  omega
theorem cut_even_ge (s : Bool) (n drop : Nat) : n / 2 ^ drop ≤ Toward.even.cut s n drop := by
  unfold Toward.cut
  simp only [Nat.one_shiftLeft]
  rcases Nat.le_total drop (n.log2 + 2) with h | h
  · rw [Nat.min_eq_left h]; exact Nat.le_add_right _ _
  · have h1 : n < 2 ^ (n.log2 + 2) := Nat.lt_of_lt_of_le (Nat.lt_log2_self (n := n)) (Nat.pow_le_pow_right (by omega) (by omega))
    have h2 : n < 2 ^ drop := Nat.lt_of_lt_of_le h1 (Nat.pow_le_pow_right (by omega) h)
    rw [Nat.div_eq_of_lt h2]; exact Nat.zero_le _
theorem read_word (s : Bool) {r : Nat} (h : r ≤ 9218868437227405312) : Dbl.read (Dbl.word s r) = if r < 4503599627370496 then .number s r (-1074) else if r < 9218868437227405312 then .number s (4503599627370496 + r % 4503599627370496) (-1074 + (r / 4503599627370496 - 1 : Nat)) else .infinity s := by
  have e1 : (Dbl.word s r / 9223372036854775808 % 2 == 1) = s := by
    unfold Format.word
    rw [sw]
    cases s
    · simp; omega
    · simp; omega
  have e2 : Dbl.word s r % 9223372036854775808 = r := by
    unfold Format.word
    rw [sw]
    cases s
    · simp; omega
    · simp; omega
  unfold Format.read
  simp only [sw, bn, lp, inr, e1, e2]
  split
  · rfl
  · split
    · rfl
    · rw [if_pos (by omega)]
def whole (m : Nat) (i : Int) : Nat := (m <<< i.toNat) / 2 ^ (-i).toNat
theorem integral_eq (s : Bool) (m : Nat) (i : Int) : (Datum.number s m i).integral .zero = .number s (whole m i) 0 := by
  unfold Datum.integral whole
  simp only [cut_zero]
theorem toInt_eq (s : Bool) (m : Nat) (i : Int) : (Datum.number s m i).toInt .zero = some (signed s (whole m i) 0) := by
  unfold Datum.toInt
  rw [integral_eq]
theorem write_small (s : Bool) {M : Nat} (h : M < 9007199254740992) : ∃ m i : Nat, Dbl.read (Dbl.write (.number s M 0)) = .number s m (-(i : Int)) ∧ m = M * 2 ^ i := by
  show ∃ m i : Nat, Dbl.read (Dbl.nearest s M 0) = .number s m (-(i : Int)) ∧ m = M * 2 ^ i
  unfold Format.nearest
  by_cases h0 : M = 0
  · subst h0
    rw [if_pos rfl, read_word s (by omega), if_pos (by omega)]
    obtain ⟨e, he⟩ : ∃ e : Nat, e = 1074 := ⟨_, rfl⟩
    exact ⟨0, e, by rw [he]; rfl, (Nat.zero_mul _).symm⟩
  · rw [if_neg h0]
    have hl : M.log2 ≤ 52 := by
      have := (Nat.log2_lt h0 (k := 53)).2 (by omega)
      omega
    have hlast : max ((0 : Int) + (M.log2 : Nat) - (Dbl.fractionBits : Nat)) Dbl.leastPlace = -((52 - M.log2 : Nat) : Int) := by
      rw [lp, show Dbl.fractionBits = 52 from rfl]
      omega
    simp only [hlast]
    have e1 : (-((52 - M.log2 : Nat) : Int) - 0).toNat = 0 := by omega
    have e2 : ((0 : Int) - -((52 - M.log2 : Nat) : Int)).toNat = 52 - M.log2 := by omega
    rw [e1, e2, cut_even0, shl_pow, lp, bn, inr]
    have e3 : (-((52 - M.log2 : Nat) : Int) - -1074).toNat = 1074 - (52 - M.log2) := by omega
    rw [e3]
    have k1 : 2 ^ M.log2 ≤ M := Nat.log2_self_le h0
    have k2 : M < 2 ^ (M.log2 + 1) := Nat.lt_log2_self
    have hp : 2 ^ M.log2 * 2 ^ (52 - M.log2) = 4503599627370496 := by rw [← Nat.pow_add, show M.log2 + (52 - M.log2) = 52 by omega]
    have hp2 : 2 ^ (M.log2 + 1) * 2 ^ (52 - M.log2) = 9007199254740992 := by rw [← Nat.pow_add, show M.log2 + 1 + (52 - M.log2) = 53 by omega]
    have g1 : 4503599627370496 ≤ M * 2 ^ (52 - M.log2) := by rw [← hp]; exact Nat.mul_le_mul_right _ k1
    have g2 : M * 2 ^ (52 - M.log2) < 9007199254740992 := by rw [← hp2]; exact Nat.mul_lt_mul_of_pos_right k2 (Nat.two_pow_pos _)
    generalize hK : M * 2 ^ (52 - M.log2) = kept at *
    generalize M.log2 = L at *
    have hr : (1074 - (52 - L)) * 4503599627370496 + kept < 9218868437227405312 := by omega
    rw [Nat.min_eq_left (by omega), read_word s (by omega), if_neg (by omega), if_pos hr]
    refine ⟨kept, 52 - L, ?_, hK.symm⟩
    have d1 : ((1074 - (52 - L)) * 4503599627370496 + kept) % 4503599627370496 = kept - 4503599627370496 := by omega
    have d2 : ((1074 - (52 - L)) * 4503599627370496 + kept) / 4503599627370496 = 1074 - (52 - L) + 1 := by omega
    have d3 : 4503599627370496 + (kept - 4503599627370496) = kept := by omega
    have d4 : (-1074 + ((1074 - (52 - L) + 1 - 1 : Nat) : Int)) = -((52 - L : Nat) : Int) := by omega
    rw [d1, d2, d3, d4]
theorem write_great (s : Bool) {M : Nat} (h : 9007199254740992 ≤ M) : Dbl.read (Dbl.write (.number s M 0)) = .infinity s ∨ ∃ m i : Nat, Dbl.read (Dbl.write (.number s M 0)) = .number s m i ∧ 4503599627370496 ≤ m := by
  show Dbl.read (Dbl.nearest s M 0) = .infinity s ∨ ∃ m i : Nat, Dbl.read (Dbl.nearest s M 0) = .number s m i ∧ 4503599627370496 ≤ m
  unfold Format.nearest
  rw [if_neg (by omega)]
  have hl : 53 ≤ M.log2 := (Nat.le_log2 (by omega)).2 (by omega)
  have hlast : max ((0 : Int) + (M.log2 : Nat) - (Dbl.fractionBits : Nat)) Dbl.leastPlace = ((M.log2 - 52 : Nat) : Int) := by
    rw [lp, show Dbl.fractionBits = 52 from rfl]
    omega
  simp only [hlast]
  have e1 : (((M.log2 - 52 : Nat) : Int) - 0).toNat = M.log2 - 52 := by omega
  have e2 : ((0 : Int) - ((M.log2 - 52 : Nat) : Int)).toNat = 0 := by omega
  rw [e1, e2, lp, bn, inr]
  have e3 : (((M.log2 - 52 : Nat) : Int) - -1074).toNat = 1074 + (M.log2 - 52) := by omega
  rw [e3]
  have k1 : 2 ^ M.log2 ≤ M := Nat.log2_self_le (by omega)
  have g1 : 4503599627370496 ≤ Toward.even.cut s (M <<< 0) (M.log2 - 52) := by
    refine Nat.le_trans ?_ (cut_even_ge s _ _)
    rw [Nat.shiftLeft_zero, Nat.le_div_iff_mul_le (Nat.two_pow_pos _), show 4503599627370496 = 2 ^ 52 from rfl, ← Nat.pow_add, show 52 + (M.log2 - 52) = M.log2 by omega]
    exact k1
  generalize Toward.even.cut s (M <<< 0) (M.log2 - 52) = kept at *
  generalize M.log2 = L at *
  rw [read_word s (Nat.min_le_right _ _)]
  have hr : 1076 * 4503599627370496 ≤ min ((1074 + (L - 52)) * 4503599627370496 + kept) 9218868437227405312 := by omega
  generalize min ((1074 + (L - 52)) * 4503599627370496 + kept) 9218868437227405312 = r at *
  rw [if_neg (by omega)]
  split
  · right
    refine ⟨4503599627370496 + r % 4503599627370496, r / 4503599627370496 - 1 - 1074, ?_, by omega⟩
    congr 1
    omega
  · exact .inl rfl
theorem sgn (s : Bool) (m k : Nat) : signed s m k = if s then -((m * 2 ^ k : Nat) : Int) else ((m * 2 ^ k : Nat) : Int) := by
  unfold signed; rw [shl_pow]
theorem cmp_lt {a b : Int} : (compare a b == .lt) = decide (a < b) := by
  rw [Bool.eq_iff_iff]; simp [compare, compareOfLessAndEq]; split <;> simp_all
theorem cmp_eq {a b : Int} : (compare a b == .eq) = decide (a = b) := by
  rw [Bool.eq_iff_iff]; simp [compare, compareOfLessAndEq]; split <;> (try split) <;> simp_all <;> omega
theorem cmp_gt {a b : Int} : (compare a b == .gt) = decide (b < a) := by
  rw [Bool.eq_iff_iff]; simp [compare, compareOfLessAndEq]; split <;> (try split) <;> simp_all <;> omega
theorem mul_pow_lt {a b : Int} (k : Nat) : a * 2 ^ k < b * 2 ^ k ↔ a < b := by
  have : (0 : Int) < 2 ^ k := Int.pow_pos (by omega)
  exact ⟨fun h => Int.lt_of_mul_lt_mul_right h (Int.le_of_lt this), fun h => Int.mul_lt_mul_of_pos_right h this⟩
theorem cmp_scale {a b : Int} (k : Nat) : compare (a * 2 ^ k) (b * 2 ^ k) = compare a b := by
  have h0 : (0 : Int) < 2 ^ k := Int.pow_pos (by omega)
  have h1 := mul_pow_lt (a := a) (b := b) k
  have h2 : a * 2 ^ k = b * 2 ^ k ↔ a = b := ⟨fun e => Int.eq_of_mul_eq_mul_right (by omega) e, fun e => by rw [e]⟩
  simp only [compare, compareOfLessAndEq, h1, h2]
def sv (s : Bool) (M : Nat) : Int := if s then -(M : Int) else M
theorem sgn_sv (s : Bool) (m k : Nat) : signed s m k = sv s m * 2 ^ k := by
  rw [sgn]; unfold sv
  cases s <;> simp [Int.neg_mul]
theorem order_exact (s t : Bool) (M C i p : Nat) : (Datum.number s (M * 2 ^ i) (-(i : Int))).order (.number t (C * 2 ^ p) (-(p : Int))) = some (compare (sv s M) (sv t C)) := by
  unfold Datum.order
  simp only
  rw [sgn_sv, sgn_sv]
  have e1 : sv s (M * 2 ^ i) = sv s M * 2 ^ i := by unfold sv; cases s <;> simp [Int.neg_mul]
  have e2 : sv t (C * 2 ^ p) = sv t C * 2 ^ p := by unfold sv; cases t <;> simp [Int.neg_mul]
  rw [e1, e2, Int.mul_assoc, Int.mul_assoc, ← Int.pow_add, ← Int.pow_add]
  have e3 : i + (-(i : Int) - min (-(i : Int)) (-(p : Int))).toNat = max i p := by omega
  have e4 : p + (-(p : Int) - min (-(i : Int)) (-(p : Int))).toNat = max i p := by omega
  rw [e3, e4, cmp_scale]
def minW : Nat := 13970166044103278592
def maxW : Nat := 4746794007244308480
theorem read_min : Dbl.read minW = .number true (2147483648 * 2 ^ 21) (-(21 : Nat)) := by decide +kernel
theorem read_max : Dbl.read maxW = .number false (2147483647 * 2 ^ 22) (-(22 : Nat)) := by decide +kernel
def inW (N : Int) : Bool := decide (-2147483648 ≤ N) && decide (N ≤ 2147483647)
theorem some_beq {α : Type} [BEq α] {a b : α} : (some a == some b) = (a == b) := rfl
theorem code_number (s : Bool) (m : Nat) (i : Int) (X : Nat) (hX : X = Dbl.write ((Datum.number s m i).integral .zero)) :
    ((Dbl.order X minW == some .gt || Dbl.order X minW == some .eq) && (Dbl.order X maxW == some .lt || Dbl.order X maxW == some .eq)) = inW (sv s (whole m i)) := by
  rw [integral_eq] at hX
  unfold Format.order
  rw [read_min, read_max]
  generalize whole m i = M at *
  subst hX
  rcases Nat.lt_or_ge M 9007199254740992 with h | h
  · obtain ⟨a, k, h1, rfl⟩ := write_small s h
    rw [h1, order_exact, order_exact]
    simp only [some_beq, cmp_lt, cmp_eq, cmp_gt]
    unfold inW sv
    rw [Bool.eq_iff_iff]
    cases s <;> simp <;> omega
  · have hout : inW (sv s M) = false := by unfold inW sv; cases s <;> simp <;> omega
    rw [hout]
    rcases write_great s h with h1 | ⟨a, k, h1, h2⟩
    · rw [h1]; cases s <;> rfl
    · rw [h1]
      unfold Datum.order
      simp only [sgn]
      have e1 : ((k : Int) - min (k : Int) (-(21 : Nat))).toNat = k + 21 := by omega
      have e2 : ((-(21 : Nat) : Int) - min (k : Int) (-(21 : Nat))).toNat = 0 := by omega
      have e3 : ((k : Int) - min (k : Int) (-(22 : Nat))).toNat = k + 22 := by omega
      have e4 : ((-(22 : Nat) : Int) - min (k : Int) (-(22 : Nat))).toNat = 0 := by omega
      rw [e1, e2, e3, e4]
      have g1 : 4503599627370496 * 2 ^ 21 ≤ a * 2 ^ (k + 21) := Nat.mul_le_mul h2 (Nat.pow_le_pow_right (by omega) (by omega))
      have g2 : 4503599627370496 * 2 ^ 22 ≤ a * 2 ^ (k + 22) := Nat.mul_le_mul h2 (Nat.pow_le_pow_right (by omega) (by omega))
      generalize a * 2 ^ (k + 21) = p at *
      generalize a * 2 ^ (k + 22) = q at *
      simp only [some_beq, cmp_lt, cmp_eq, cmp_gt]
      cases s <;> simp <;> omega
theorem code_int (s : Bool) (m : Nat) (i : Int) (h : inW (sv s (whole m i)) = true) : (Dbl.read (Dbl.write ((Datum.number s m i).integral .zero))).toInt .zero = some (sv s (whole m i)) := by
  rw [integral_eq]
  generalize whole m i = M at *
  have hM : M < 9007199254740992 := by unfold inW sv at h; cases s <;> simp at h <;> omega
  obtain ⟨a, k, h1, rfl⟩ := write_small s hM
  rw [h1, toInt_eq]
  have : whole (M * 2 ^ k) (-(k : Int)) = M := by
    unfold whole
    have a1 : (-(k : Int)).toNat = 0 := by omega
    have a2 : (- -(k : Int)).toNat = k := by omega
    rw [a1, a2, Nat.shiftLeft_zero, Nat.mul_div_cancel _ (Nat.two_pow_pos k)]
  rw [this, sgn_sv]
  simp
theorem code_inf (s : Bool) : Dbl.write (Datum.integral .zero (.infinity s)) = Dbl.word s 9218868437227405312 := by
  show Dbl.word s Dbl.infRung = _
  rw [inr]
theorem order_inf (s : Bool) : ((Dbl.order (Dbl.word s 9218868437227405312) minW == some .gt || Dbl.order (Dbl.word s 9218868437227405312) minW == some .eq) && (Dbl.order (Dbl.word s 9218868437227405312) maxW == some .lt || Dbl.order (Dbl.word s 9218868437227405312) maxW == some .eq)) = false := by
  unfold Format.order
  rw [read_min, read_max, read_word s (Nat.le_refl _), if_neg (by omega), if_neg (by omega)]
  cases s <;> rfl
theorem order_nan {x y : Nat} {s : Bool} {t : Nat} (hx : Dbl.read x = .nan s t) : Dbl.order x y = none := by
  unfold Format.order
  rw [hx]; rfl
end Go.Proofs.YtomhiphiogbbiaaGreatDoor.Flt

