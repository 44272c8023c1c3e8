/- Several texts in one. -/
import Derived.Test.YtbphdcffpobcbaaGreatDoorMd
import Derived.Test.YtbphdcffpobcbaaGreatDoorMe
import Derived.Test.YtbphdcffpobcbaaGreatDoorMg
import Derived.Test.YtbphdcffpobcbaaGreatDoorMh
set_option linter.unusedSimpArgs false
set_option linter.unusedVariables false
set_option maxRecDepth 100000
set_option maxHeartbeats 16000000
namespace Go.Proofs.YtbphdcffpobcbaaGreatDoor
open Go.RowKit Go
structure KP where
  k : Nat
  nx : Nat
theorem any_take_next {α : Type} {L : List α} {p : α → Bool} {k : Nat} (hk : k < L.length) : (L.take (k + 1)).any p = ((L.take k).any p || p L[k]) := by
  rw [List.take_succ_eq_append_getElem hk, List.any_append]; simp
def bigT (t : ByteArray) : Bool := decide ((200 : Int) < t.size)
def accAny {α : Type} (b : Bool) (L : List α) (p : α → Bool) (k : Nat) : Bool := b || (L.take k).any p
theorem accAny_next {α : Type} {b : Bool} {L : List α} {p : α → Bool} {k : Nat} (hk : k < L.length) : accAny b L p (k + 1) = (accAny b L p k || p L[k]) := by
  unfold accAny; rw [any_take_next hk, Bool.or_assoc]
theorem accAny_zero {α : Type} {b : Bool} {L : List α} {p : α → Bool} : accAny b L p 0 = b := by simp [accAny]
theorem accAny_all {α : Type} {b : Bool} {L : List α} {p : α → Bool} : accAny b L p L.length = (b || L.any p) := by simp [accAny]
def gT (ts : List ByteArray) (j : Nat) : ByteArray := ts.getD j .empty
def wordOk (ts : List ByteArray) (j : Nat) : Bool := decide (19 ≤ j) || decide (gT ts j = gT wordsT j)
def accU (b : Bool) (ts : List ByteArray) (k i : Nat) : Bool := b && (List.range i).all fun j => !decide (gT ts k = gT ts j)
def accT (b : Bool) (ts : List ByteArray) : Nat → Bool
  | 0 => b
  | k + 1 => accU (accT b ts k && wordOk ts k) ts k k
theorem accU_zero {b : Bool} {ts : List ByteArray} {k : Nat} : accU b ts k 0 = b := by simp [accU]
theorem accU_next {b : Bool} {ts : List ByteArray} {k i : Nat} : accU b ts k (i + 1) = (accU b ts k i && !decide (gT ts k = gT ts i)) := by simp [accU, List.range_succ, Bool.and_assoc]
theorem gT_at {ts : List ByteArray} {j : Nat} (h : j < ts.length) : gT ts j = ts[j] := by simp [gT, List.getD_eq_getElem?_getD, List.getElem?_eq_getElem h]
theorem accT_iff {b : Bool} {ts : List ByteArray} : ∀ n, accT b ts n = true ↔ b = true ∧ ∀ j < n, wordOk ts j = true ∧ ∀ i < j, gT ts j ≠ gT ts i
  | 0 => by simp [accT]
  | n + 1 => by
    rw [accT, accU, Bool.and_eq_true, Bool.and_eq_true, accT_iff n, List.all_eq_true]
    constructor
    · rintro ⟨⟨⟨h1, h2⟩, h3⟩, h4⟩
      refine ⟨h1, fun j hj => ?_⟩
      by_cases e : j = n
      · subst e
        exact ⟨h3, fun i hi => by have := h4 i (List.mem_range.2 hi); simpa using this⟩
      · exact h2 j (by omega)
    · rintro ⟨h1, h2⟩
      refine ⟨⟨⟨h1, fun j hj => h2 j (by omega)⟩, (h2 n (by omega)).1⟩, fun i hi => ?_⟩
      have := (h2 n (by omega)).2 i (List.mem_range.1 hi)
      simpa using this
theorem words_iff {ts : List ByteArray} (h : 19 ≤ ts.length) : (∀ j < ts.length, wordOk ts j = true ∧ ∀ i < j, gT ts j ≠ gT ts i) ↔ ts.take wordsT.length = wordsT ∧ ts.Nodup := by
  have hw : wordsT.length = 19 := rfl
  constructor
  · intro hj
    refine ⟨List.ext_getElem (by rw [List.length_take, hw]; omega) fun j h1 h2 => ?_, List.pairwise_iff_getElem.2 fun i j hi hj2 hij => ?_⟩
    · have hjl : j < ts.length := by omega
      have := (hj j hjl).1
      rw [wordOk, gT_at hjl, gT_at h2] at this
      rw [List.getElem_take]
      simp at this
      rcases this with h3 | h3
      · omega
      · exact h3
    · have := (hj j hj2).2 i hij
      rw [gT_at hi, gT_at hj2] at this
      exact fun e => this e.symm
  · rintro ⟨h1, h2⟩ j hj
    refine ⟨?_, fun i hi => ?_⟩
    · by_cases h19 : 19 ≤ j
      · simp [wordOk, h19]
      · have hj2 : j < wordsT.length := by omega
        have : (ts.take wordsT.length)[j]'(by rw [List.length_take]; omega) = ts[j] := List.getElem_take
        simp only [h1] at this
        simp [wordOk, gT_at hj, gT_at hj2, this]
    · rw [gT_at hj, gT_at (by omega)]
      exact fun e => (List.pairwise_iff_getElem.1 h2 i j (by omega) hj hi) e.symm
end Go.Proofs.YtbphdcffpobcbaaGreatDoor
