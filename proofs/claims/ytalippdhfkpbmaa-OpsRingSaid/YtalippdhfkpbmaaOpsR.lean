/- Whole numbers of the machine, plainly: the ring's laws and Euclid's, where nothing is thrown. -/
import Derived.Test.YtalippdhfkpbmaaOpsQ
namespace Go.Proofs.Ytalippdhfkpbmaa
open Go.RowKit
theorem right_int {n : Int} (h : rightB 2 n = true) : -2147483648 ≤ n ∧ n ≤ 2147483647 := by simpa [rightB] using h
theorem right_int' {n : Int} (h : -2147483648 ≤ n ∧ n ≤ 2147483647) : rightB 2 n = true := by simpa [rightB] using h
theorem bin_int {op x y : Int} (hx : rightB 2 x = true) (hy : rightB 2 y = true) (ho : op ≠ 8) : binaryS op 2 x 2 y = wholesS op x y := by
  simp [binaryS, binaryT, takK, takN, hx, hy, ho]
theorem bin_nil {op k n y : Int} (hk : takK k n = 0) (ho : op ≠ 8) : binaryS op k n 2 y = (0, 0, 0) := by
  simp [binaryS, binaryT, hk, ho]
theorem bin_nilL {op n k m : Int} (hk : takK 2 n = 0) (ho : op ≠ 8) : binaryS op 2 n k m = (0, 0, 0) := by
  simp [binaryS, binaryT, hk, ho]
theorem bin_nil' {op k n y : Int} (hk : takK k n = 0) (ho : op ≠ 8) : binaryS op 2 y k n = (0, 0, 0) := by
  simp [binaryS, binaryT, hk, ho]
theorem whole_ok {n : Int} (h : (wholeS n).2.2 = -1) : wholeS n = (2, n, -1) ∧ rightB 2 n = true := by
  unfold wholeS at *
  split at h
  · rename_i hb
    exact ⟨by rw [if_pos hb], right_int' hb⟩
  · simp at h
theorem whole_cases (n : Int) : (wholeS n = (2, n, -1) ∧ rightB 2 n = true) ∨ wholeS n = (0, 0, 1) := by
  unfold wholeS
  split
  · rename_i hb
    exact .inl ⟨rfl, right_int' hb⟩
  · exact .inr rfl
theorem whole_in {n : Int} (h : rightB 2 n = true) : wholeS n = (2, n, -1) := by
  unfold wholeS
  rw [if_pos (right_int h)]
theorem wrap_in {n : Int} (h1 : -9223372036854775808 ≤ n) (h2 : n ≤ 9223372036854775807) : wrap64 n = n := by unfold wrap64; omega
theorem mul_in {x y : Int} (hx : rightB 2 x = true) (hy : rightB 2 y = true) : wrap64 (x * y) = x * y := by
  have h1 := right_int hx
  have h2 := right_int hy
  have h3 : (x * y).natAbs ≤ 2147483648 * 2147483648 := by
    rw [Int.natAbs_mul]
    exact Nat.mul_le_mul (by omega) (by omega)
  apply wrap_in <;> omega
theorem tak_zero : takK 0 0 = 0 := by simp [takK]
def opN (op x y : Int) : Int := if op = 3 then x + y else x * y
theorem bin_ring {op x y : Int} (ho : op = 3 ∨ op = 5) (hx : rightB 2 x = true) (hy : rightB 2 y = true) : binaryS op 2 x 2 y = wholeS (opN op x y) := by
  rw [bin_int hx hy (by omega)]
  rcases ho with rfl | rfl
  · simp [wholesS, opN]
  · simp [wholesS, opN, mul_in hx hy]
theorem opN_comm (op x y : Int) : opN op x y = opN op y x := by
  unfold opN
  split
  · omega
  · exact Int.mul_comm x y
theorem opN_assoc (op x y z : Int) : opN op (opN op x y) z = opN op x (opN op y z) := by
  unfold opN
  split
  · omega
  · exact Int.mul_assoc x y z
theorem ring_comm {op x y : Int} (ho : op = 3 ∨ op = 5) (hx : rightB 2 x = true) (hy : rightB 2 y = true) : binaryS op 2 y 2 x = binaryS op 2 x 2 y := by
  rw [bin_ring ho hx hy, bin_ring ho hy hx, opN_comm]
theorem ring_assoc {op x y z : Int} (ho : op = 3 ∨ op = 5) (hx : rightB 2 x = true) (hy : rightB 2 y = true) (hz : rightB 2 z = true)
    (e : (binaryS op 2 x 2 y).2.2 = -1) (h : (binaryS op 2 y 2 z).2.2 = -1) :
    binaryS op (binaryS op 2 x 2 y).1 (binaryS op 2 x 2 y).2.1 2 z = binaryS op 2 x (binaryS op 2 y 2 z).1 (binaryS op 2 y 2 z).2.1 := by
  rw [bin_ring ho hx hy] at e ⊢
  rw [bin_ring ho hy hz] at h ⊢
  obtain ⟨e1, e2⟩ := whole_ok e
  obtain ⟨h1, h2⟩ := whole_ok h
  rw [e1, h1]
  simp only []
  rw [bin_ring ho e2 hz, bin_ring ho hx h2, opN_assoc]
theorem ring_dist {x y z : Int} (hx : rightB 2 x = true) (hy : rightB 2 y = true) (hz : rightB 2 z = true)
    (e : (binaryS 3 2 y 2 z).2.2 = -1) (g : (binaryS 5 2 x 2 y).2.2 = -1) (h : (binaryS 5 2 x 2 z).2.2 = -1) :
    binaryS 5 2 x (binaryS 3 2 y 2 z).1 (binaryS 3 2 y 2 z).2.1 = binaryS 3 (binaryS 5 2 x 2 y).1 (binaryS 5 2 x 2 y).2.1 (binaryS 5 2 x 2 z).1 (binaryS 5 2 x 2 z).2.1 := by
  rw [bin_ring (.inl rfl) hy hz] at e ⊢
  rw [bin_ring (.inr rfl) hx hy] at g ⊢
  rw [bin_ring (.inr rfl) hx hz] at h ⊢
  obtain ⟨e1, e2⟩ := whole_ok e
  obtain ⟨g1, g2⟩ := whole_ok g
  obtain ⟨h1, h2⟩ := whole_ok h
  rw [e1, g1, h1]
  simp only []
  rw [bin_ring (.inr rfl) hx e2, bin_ring (.inl rfl) g2 h2]
  congr 1
  simp only [opN, if_true, if_neg (show ¬ (5 : Int) = 3 by omega)]
  exact Int.mul_add x y z
/-- Division: thrown alike, or the quotient alone is out of range; else Euclid. -/
theorem div_law {a b : Int} (ha : rightB 2 a = true) (hb : rightB 2 b = true) :
    ((binaryS 6 2 a 2 b).2.2 ≠ -1 ∧ ((binaryS 7 2 a 2 b).2.2 = (binaryS 6 2 a 2 b).2.2 ∨ (binaryS 6 2 a 2 b = (0, 0, 1) ∧ (binaryS 7 2 a 2 b).2.2 = -1))) ∨
    ∃ q r p : Int, binaryS 6 2 a 2 b = (2, q, -1) ∧ binaryS 7 2 a 2 b = (2, r, -1) ∧ binaryS 5 2 q 2 b = (2, p, -1) ∧ binaryS 3 2 p 2 r = (2, a, -1) ∧
      -2147483648 ≤ r ∧ r ≤ 2147483647 ∧ r.natAbs < b.natAbs ∧ (r = 0 ∨ (r < 0 ↔ a < 0)) := by
  have ba := right_int ha
  have bb := right_int hb
  rw [bin_int ha hb (by omega), bin_int ha hb (by omega)]
  by_cases h0 : b = 0
  · left
    subst h0
    simp [wholesS]
  · have e1 := Int.tdiv_mul_add_tmod a b
    have e2 := Int.natAbs_tmod a b
    have e3 := Int.natAbs_tdiv a b
    have e4 : a.natAbs % b.natAbs < b.natAbs := Nat.mod_lt _ (by omega)
    have e5 : a.natAbs % b.natAbs ≤ a.natAbs := Nat.mod_le _ _
    have e6 : a.natAbs.div b.natAbs ≤ a.natAbs := Nat.div_le_self _ _
    have e7 : 0 ≤ a → 0 ≤ a.tmod b := Int.tmod_nonneg b
    have e8 : a ≤ 0 → a.tmod b ≤ 0 := by
      intro h
      have h1 : 0 ≤ (-a).tmod b := Int.tmod_nonneg b (by omega)
      rw [Int.neg_tmod] at h1
      omega
    have ew : wrap64 (a.tdiv b) = a.tdiv b := by apply wrap_in <;> omega
    have s6 : wholesS 6 a b = wholeS (a.tdiv b) := by simp [wholesS, h0, ew]
    have s7 : wholesS 7 a b = wholeS (a.tmod b) := by simp [wholesS, h0]
    have r7 : rightB 2 (a.tmod b) = true := right_int' (by omega)
    rw [s6, s7, whole_in r7]
    rcases whole_cases (a.tdiv b) with ⟨c1, c2⟩ | c
    · right
      have rp : rightB 2 (a.tdiv b * b) = true := right_int' (by omega)
      refine ⟨a.tdiv b, a.tmod b, a.tdiv b * b, c1, rfl, ?_, ?_, by omega, by omega, by omega, by omega⟩
      · rw [bin_ring (.inr rfl) c2 hb]
        simp only [opN, if_neg (show ¬ (5 : Int) = 3 by omega)]
        exact whole_in rp
      · rw [bin_ring (.inl rfl) rp r7]
        simp only [opN, if_true]
        rw [e1]
        exact whole_in ha
    · left
      rw [c]
      simp
end Go.Proofs.Ytalippdhfkpbmaa
