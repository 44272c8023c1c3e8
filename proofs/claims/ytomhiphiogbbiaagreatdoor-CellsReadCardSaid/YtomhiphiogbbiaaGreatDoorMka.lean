/- Several texts in one. -/
import Derived.Test.YtomhiphiogbbiaaGreatDoorMa
import Derived.Test.YtomhiphiogbbiaaGreatDoorMe
import Derived.Test.YtomhiphiogbbiaaGreatDoorMf
import Derived.Test.YtomhiphiogbbiaaGreatDoorMw
set_option linter.unusedSimpArgs false
set_option linter.unusedVariables false
set_option maxRecDepth 100000
set_option maxHeartbeats 16000000
namespace Go.Proofs.YtomhiphiogbbiaaGreatDoor
open Go.RowKit
theorem namesQ_in {L : List Shp} {s : Nat} (hf : faultP L = 0) (h : s < L.length) : namesQ L s = namesP L s := by
  unfold namesQ; rw [if_neg (by omega)]; simp
end Go.Proofs.YtomhiphiogbbiaaGreatDoor

namespace Go.Proofs.YtomhiphiogbbiaaGreatDoor
open Go.RowKit
theorem Ints.at {w : World} {A : Option Addr} {n cap : Nat} {L : List Int} (h : Ints w (.slice A n cap) L) (h0 : 0 < L.length) : ∃ b o, A = some ⟨b, o, none⟩ ∧ b < w.heap.size ∧ ∀ i, i < L.length → w.cell? ⟨b, o + i, none⟩ = some (.int .i64 (L.getD i 0)) := by
  obtain ⟨A', cap', e, -, -, -, hA⟩ := h.open
  simp only [Value.slice.injEq] at e
  obtain ⟨rfl, -, -⟩ := e
  exact hA h0
end Go.Proofs.YtomhiphiogbbiaaGreatDoor

namespace Go.Proofs.YtomhiphiogbbiaaGreatDoor
open Go.RowKit Go
noncomputable def slotW (s : GState) (of which : GVal) : Int × Int :=
  if of.kind = 5 ∧ (cellAt s of.n).kind = 1 ∧ which.kind = 4 then (idxQ (namesQ s.shapes (cellAt s of.n).num) which.n, -1)
  else if of.kind = 5 ∧ (cellAt s of.n).kind = 2 ∧ which.kind = 2 then (if 0 ≤ which.n ∧ which.n < (cellAt s of.n).vals.length then (which.n, -1) else (-1, 3))
  else (-1, 0)
def setCS (s : GState) (n : Nat) (c : GCell) (l : List Shp) : GState := ⟨s.cells.set n c, l, s.texts, s.threads, s.ends, s.said, s.asked, s.steps⟩
noncomputable def putW (s : GState) (of which v : GVal) : GState × Int :=
  if 0 ≤ (slotW s of which).2 then (s, (slotW s of which).2)
  else if 0 ≤ (slotW s of which).1 then (setCS s of.n.toNat ⟨(cellAt s of.n).kind, (cellAt s of.n).num, (cellAt s of.n).vals.set (slotW s of which).1.toNat v, (cellAt s of.n).frames⟩ s.shapes, -1)
  else if (withP s.shapes (cellAt s of.n).num which.n).2.2 ≠ 0 ∨ 100 ≤ (cellAt s of.n).vals.length then (s, 4)
  else (setCS s of.n.toNat ⟨(cellAt s of.n).kind, (withP s.shapes (cellAt s of.n).num which.n).2.1, (cellAt s of.n).vals ++ [v], (cellAt s of.n).frames⟩ (withP s.shapes (cellAt s of.n).num which.n).1, -1)
section
variable {s : GState}
theorem slot_le (of which : GVal) : (slotW s of which).2 = -1 ∨ 0 ≤ (slotW s of which).2 := by
  unfold slotW
  split
  · exact .inl rfl
  · split
    · split
      · exact .inl rfl
      · exact .inr (by decide)
    · exact .inr (by decide)
theorem heap_cell (h : cellsQ wordsT s = 0) {n : Nat} (hn : n < s.cells.length) : cellB s s.cells[n] = true ∧ manyB s.cells[n] = false ∧ faultP s.shapes = 0 ∧ ∀ x ∈ s.shapes, x.2 < s.texts.length := by
  obtain ⟨c1, c2, c3, c4, c5, c6, c7⟩ := cellsQ_iff.1 h
  refine ⟨List.all_eq_true.1 c5 _ (List.getElem_mem hn), ?_, c2, fun x hx => by simpa using List.all_eq_true.1 c4 x hx⟩
  simp only [heapLarge, Bool.or_eq_false_iff, List.any_eq_false] at c1
  simpa using c1.2 _ (List.getElem_mem hn)
theorem slot_kind {of which : GVal} (h : (slotW s of which).2 = -1) : of.kind = 5 ∧ (((cellAt s of.n).kind = 1 ∧ which.kind = 4) ∨ ((cellAt s of.n).kind = 2 ∧ which.kind = 2 ∧ 0 ≤ (slotW s of which).1)) := by
  unfold slotW at h ⊢
  split at h
  · rename_i e; exact ⟨e.1, .inl e.2⟩
  · rename_i e1
    rw [if_neg e1]
    split at h
    · rename_i e
      rw [if_pos e]
      split at h
      · rename_i e3
        rw [if_pos e3]
        exact ⟨e.1, .inr ⟨e.2.1, e.2.2, e3.1⟩⟩
      · cases h
    · cases h
end
end Go.Proofs.YtomhiphiogbbiaaGreatDoor

namespace Go.Proofs.YtomhiphiogbbiaaGreatDoor
open Go.RowKit Go
section
variable {α : Type} [DecidableEq α] {L : List α} {u v a : α}
theorem idxQ_get {k : Nat} (h : idxQ L v = k) : ∃ hk : k < L.length, L[k] = v := by
  unfold idxQ at h
  split at h
  · rename_i j hj
    obtain rfl : j = k := by omega
    obtain ⟨hk, h1, -⟩ := List.findIdx?_eq_some_iff_getElem.1 hj
    exact ⟨hk, (of_decide_eq_true h1).symm⟩
  · omega
theorem idxQ_neg (h : ¬ 0 ≤ idxQ L v) : idxQ L v = -1 := by
  unfold idxQ at h ⊢
  split
  · rename_i k hk
    rw [hk] at h
    simp only at h
    omega
  · rfl
end
noncomputable def slotC (L : List Shp) (c : GCell) (which : GVal) : Int × Int :=
  if c.kind = 1 ∧ which.kind = 4 then (idxQ (namesQ L c.num) which.n, -1) else if c.kind = 2 ∧ which.kind = 2 then (if 0 ≤ which.n ∧ which.n < c.vals.length then (which.n, -1) else (-1, 3)) else (-1, 0)
noncomputable def getW (s : GState) (of which : GVal) : GVal × Int := if 0 ≤ (slotW s of which).1 then (valAt (cellAt s of.n).vals (slotW s of which).1.toNat, -1) else (⟨0, 0⟩, (slotW s of which).2)
section
variable {s : GState}
theorem slotW_eq (of which : GVal) : slotW s of which = if of.kind = 5 then slotC s.shapes (cellAt s of.n) which else (-1, 0) := by
  unfold slotW slotC
  by_cases e : of.kind = 5 <;> simp [e]
theorem obj_len (h : cellsQ wordsT s = 0) {n : Nat} (hn : n < s.cells.length) (hk : s.cells[n].kind = 1) : 0 ≤ s.cells[n].num ∧ s.cells[n].num < s.shapes.length ∧ (namesQ s.shapes s.cells[n].num).length = s.cells[n].vals.length := by
  obtain ⟨d, m, fl, nm⟩ := heap_cell h hn
  obtain ⟨d1, d2, d3, d4⟩ := cellB_parts d
  unfold kindB at d1
  rw [if_neg (by omega), if_pos hk] at d1
  simp only [Bool.and_eq_true, decide_eq_true_eq, btw] at d1
  obtain ⟨d1, d5⟩ := d1
  have d6 : 0 ≤ s.cells[n].num ∧ s.cells[n].num < s.shapes.length := ⟨d1.1, by omega⟩
  refine ⟨d6.1, d6.2, ?_⟩
  obtain ⟨k, hk'⟩ : ∃ k : Nat, s.cells[n].num = k := ⟨s.cells[n].num.toNat, by omega⟩
  rw [hk', namesQ_in fl (by omega)]
  unfold shapeLen at d5
  rw [hk', Int.toNat_natCast] at d5
  omega
end
section
variable {L M : List Shp} {c : GCell} {which name v : GVal}
end
section
variable {s : GState}
theorem slot_lt (h : cellsQ wordsT s = 0) {n : Nat} (hn : n < s.cells.length) {which : GVal} {k : Nat} (hk : (slotC s.shapes s.cells[n] which).1 = k) : k < s.cells[n].vals.length := by
  unfold slotC at hk
  split at hk
  · rename_i a1
    simp only at hk
    obtain ⟨g1, -⟩ := idxQ_get hk
    have := (obj_len h hn a1.1).2.2
    omega
  · split at hk
    · split at hk
      · simp only at hk; omega
      · simp only at hk; omega
    · simp only at hk; omega
end
end Go.Proofs.YtomhiphiogbbiaaGreatDoor

namespace Go.Proofs.YtomhiphiogbbiaaGreatDoor
open Go.RowKit Go
abbrev nilG : GVal := ⟨0, 0⟩
section
variable {s : GState}
theorem names_cell {v : GVal} {k : Int} (h : namesB s v k = true) : ∃ (n : Nat) (hn : n < s.cells.length), v = ⟨5, n⟩ ∧ cellAt s v.n = s.cells[n] ∧ s.cells[n].kind = k := by
  simp only [namesB, Bool.and_eq_true, decide_eq_true_eq] at h
  obtain ⟨⟨⟨h1, h2⟩, h3⟩, h4⟩ := h
  obtain ⟨n, hn⟩ : ∃ n : Nat, v.n = n := ⟨v.n.toNat, by omega⟩
  have hnl : n < s.cells.length := by omega
  have hat : cellAt s v.n = s.cells[n] := by rw [hn]; exact at_nat hnl
  exact ⟨n, hnl, by cases v; simp_all, hat, by rw [← hat]; exact h4⟩
theorem cell_vals (h : cellsQ wordsT s = 0) {n : Nat} (hn : n < s.cells.length) : (∀ v ∈ s.cells[n].vals, fitsB s v = true) ∧ (s.cells[n].kind ≠ 7 → s.cells[n].vals.length ≤ 100) ∧ s.cells[n].vals.length ≤ 600 := by
  obtain ⟨d, m, fl, nm⟩ := heap_cell h hn
  obtain ⟨d1, d2, d3, d4⟩ := cellB_parts d
  refine ⟨List.all_eq_true.1 d3, fun e => ?_, ?_⟩
  · simp [manyB, e] at m; omega
  · simp only [manyB, Bool.and_eq_false_iff, decide_eq_false_iff_not, Bool.or_eq_false_iff] at m
    omega
end
end Go.Proofs.YtomhiphiogbbiaaGreatDoor

namespace Go.Proofs.YtomhiphiogbbiaaGreatDoor.Flt
open Ieee Ieee.Datum
abbrev Dbl := Ieee.double
theorem bn : Dbl.binade = 4503599627370496 := by decide +kernel
theorem inr : Dbl.infRung = 9218868437227405312 := by decide +kernel
theorem order_nan {x y : Nat} {s : Bool} {t : Nat} (hx : Dbl.read x = .nan s t) : Dbl.order x y = none := by
  unfold Format.order
  rw [hx]; rfl
end Go.Proofs.YtomhiphiogbbiaaGreatDoor.Flt

