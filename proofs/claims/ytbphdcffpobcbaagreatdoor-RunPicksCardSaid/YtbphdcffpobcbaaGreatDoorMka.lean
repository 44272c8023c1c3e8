/- Several texts in one. -/
import Derived.Test.YtbphdcffpobcbaaGreatDoorMa
import Derived.Test.YtbphdcffpobcbaaGreatDoorMe
import Derived.Test.YtbphdcffpobcbaaGreatDoorMf
import Derived.Test.YtbphdcffpobcbaaGreatDoorMw
set_option linter.unusedSimpArgs false
set_option linter.unusedVariables false
set_option maxRecDepth 100000
set_option maxHeartbeats 16000000
namespace Go.Proofs.YtbphdcffpobcbaaGreatDoor
open Go.RowKit
end Go.Proofs.YtbphdcffpobcbaaGreatDoor

namespace Go.Proofs.YtbphdcffpobcbaaGreatDoor
open Go.RowKit
theorem Ints.at {w : World} {A : Option Addr} {n cap : Nat} {L : List Int} (h : Ints w (.slice A n cap) L) (h0 : 0 < L.length) : ∃ b o, A = some ⟨b, o, none⟩ ∧ b < w.heap.size ∧ ∀ i, i < L.length → w.cell? ⟨b, o + i, none⟩ = some (.int .i64 (L.getD i 0)) := by
  obtain ⟨A', cap', e, -, -, -, hA⟩ := h.open
  simp only [Value.slice.injEq] at e
  obtain ⟨rfl, -, -⟩ := e
  exact hA h0
end Go.Proofs.YtbphdcffpobcbaaGreatDoor

namespace Go.Proofs.YtbphdcffpobcbaaGreatDoor
open Go.RowKit Go
section
variable {s : GState}
theorem heap_cell (h : cellsQ wordsT s = 0) {n : Nat} (hn : n < s.cells.length) : cellB s s.cells[n] = true ∧ manyB s.cells[n] = false ∧ faultP s.shapes = 0 ∧ ∀ x ∈ s.shapes, x.2 < s.texts.length := by
  obtain ⟨c1, c2, c3, c4, c5, c6, c7⟩ := cellsQ_iff.1 h
  refine ⟨List.all_eq_true.1 c5 _ (List.getElem_mem hn), ?_, c2, fun x hx => by simpa using List.all_eq_true.1 c4 x hx⟩
  simp only [heapLarge, Bool.or_eq_false_iff, List.any_eq_false] at c1
  simpa using c1.2 _ (List.getElem_mem hn)
end
end Go.Proofs.YtbphdcffpobcbaaGreatDoor

namespace Go.Proofs.YtbphdcffpobcbaaGreatDoor
open Go.RowKit Go
section
variable {α : Type} [DecidableEq α] {L : List α} {u v a : α}
end
section
variable {s : GState}
end
section
variable {L M : List Shp} {c : GCell} {which name v : GVal}
end
section
variable {s : GState}
end
end Go.Proofs.YtbphdcffpobcbaaGreatDoor

namespace Go.Proofs.YtbphdcffpobcbaaGreatDoor
open Go.RowKit Go
abbrev nilG : GVal := ⟨0, 0⟩
section
variable {s : GState}
end
end Go.Proofs.YtbphdcffpobcbaaGreatDoor

namespace Go.Proofs.YtbphdcffpobcbaaGreatDoor.Flt
open Ieee Ieee.Datum
abbrev Dbl := Ieee.double
theorem bn : Dbl.binade = 4503599627370496 := by decide +kernel
theorem inr : Dbl.infRung = 9218868437227405312 := by decide +kernel
theorem order_nan {x y : Nat} {s : Bool} {t : Nat} (hx : Dbl.read x = .nan s t) : Dbl.order x y = none := by
  unfold Format.order
  rw [hx]; rfl
end Go.Proofs.YtbphdcffpobcbaaGreatDoor.Flt

