/- Floats, plainly: order, the one NaN, bits there and back. -/
import Derived.Test.YtalippdhfkpbmaaDoorOpsP
import Derived.WalkLawsBesides
namespace Go.Proofs.YtalippdhfkpbmaaDoor
open Go.RowKit
theorem dbl_sign : Ieee.double.signWeight = 9223372036854775808 := by decide
theorem dbl_bin : Ieee.double.binade = 4503599627370496 := by decide
theorem dbl_inf : Ieee.double.infRung = 9218868437227405312 := by decide
theorem read_nan {b : Nat} (h : 9218868437227405312 < b % 9223372036854775808) : ∃ s f, Ieee.double.read b = .nan s f := by
  unfold Ieee.Format.read
  rw [dbl_sign, dbl_bin, dbl_inf]
  simp only []
  rw [if_neg (by omega), if_neg (by omega), if_neg (by omega)]
  exact ⟨_, _, rfl⟩
theorem order_nan {x y : Nat} (h : 9218868437227405312 < x % 9223372036854775808) : Ieee.double.order x y = none := by
  obtain ⟨s, f, e⟩ := read_nan h
  unfold Ieee.Format.order
  rw [e]
  rfl
theorem same_nan {x y : Nat} (h : 9218868437227405312 < x % 9223372036854775808) : same x y = false := by
  unfold same
  rw [order_nan h]
  rfl
theorem ord_swap (x y : Ieee.Datum) : y.order x = (x.order y).map Ordering.swap := by
  cases x <;> cases y <;> simp only [Ieee.Datum.order, Option.map_none, Option.map_some, Option.some.injEq]
  case number.number s m i t n j =>
    rw [Int.min_comm j i]
    exact (Std.OrientedCmp.eq_swap (cmp := (compare : Int → Int → Ordering)))
  case number.infinity s m i t => cases t <;> rfl
  case infinity.number s t n j => cases s <;> rfl
  case infinity.infinity s t => cases s <;> cases t <;> rfl
theorem order_swap (x y : Nat) : Ieee.double.order y x = (Ieee.double.order x y).map Ordering.swap := ord_swap _ _
theorem same_comm (x y : Nat) : same x y = same y x := by
  unfold same
  rw [order_swap x y]
  cases Ieee.double.order x y with
  | none => rfl
  | some o => cases o <;> rfl
/-- At most one of less, the other way less, same. -/
theorem one_of (x y : Nat) : (bit (less x y) + bit (less y x) + bit (same x y)) ≤ 1 := by
  unfold less same
  rw [order_swap x y]
  cases Ieee.double.order x y with
  | none => decide
  | some o => cases o <;> decide
theorem flt_lt (n : Int) : flt n < 18446744073709551616 := by
  unfold flt
  rw [IntKind.wrap_u64]
  omega
theorem flt_wrap {b : Nat} (h : b < 18446744073709551616) : flt (wrap64 b) = b := by
  unfold flt wrap64
  rw [IntKind.wrap_u64]
  omega
theorem neg_lt {b : Nat} (h : b < 18446744073709551616) : Op.negFloat .f64 b < 18446744073709551616 := by
  unfold Op.negFloat
  exact Nat.xor_lt_two_pow (n := 64) h (by decide)
theorem right_of {b : Nat} (h : b < 18446744073709551616) : rightB 3 (ofN b) = true := by
  unfold ofN
  cases hs : same b b
  · simp [rightB]
  · simp [rightB, flt_wrap h, hs]
theorem add_b {x y r : Nat} (h : Ieee.double.add x y = some r) : r < 18446744073709551616 := Ieee.double.add_lt h
theorem sub_b {x y r : Nat} (h : Ieee.double.sub x y = some r) : r < 18446744073709551616 := Ieee.double.sub_lt h
theorem mul_b {x y r : Nat} (h : Ieee.double.mul x y = some r) : r < 18446744073709551616 := Ieee.double.mul_lt h
theorem div_b {x y r : Nat} (h : Ieee.double.div x y = some r) : r < 18446744073709551616 := Ieee.double.div_lt h
theorem run_float_nan {P : Program} (op : BinOp) (t : TypeId) (x y : Nat) (w : World) (h : floatBits op .f64 x y = none) (ho : op = .add ∨ op = .sub ∨ op = .mul ∨ op = .quo) :
    ∃ b : Nat, same b b = false ∧ (binOp op t (.float .f64 x) (.float .f64 y)).run P w = .ok (.float .f64 b) w.drew := by
  refine ⟨(Question.nanBits .f64 x y).cut (w.tape w.drawn (.nanBits .f64 x y)), ?_, ?_⟩
  · have key : ∀ t : Nat, same ((t % 2) * 2 ^ 63 + 0x7ff0000000000000 + 1 + (t / 2) % (2 ^ 52 - 1)) ((t % 2) * 2 ^ 63 + 0x7ff0000000000000 + 1 + (t / 2) % (2 ^ 52 - 1)) = false := by
      intro t
      apply same_nan
      have h1 : t % 2 < 2 := Nat.mod_lt _ (by decide)
      have h2 : (t / 2) % (2 ^ 52 - 1) < 4503599627370495 := Nat.mod_lt _ (by decide)
      generalize t % 2 = s at h1
      generalize (t / 2) % (2 ^ 52 - 1) = r at h2
      rcases (by omega : s = 0 ∨ s = 1) with rfl | rfl <;> omega
    exact key _
  · unfold floatBits at h
    rcases ho with rfl | rfl | rfl | rfl <;> simp only at h <;> simp [binOp, Op.floatArith, h, choose, Sem.run, Question.forced] <;> rfl
end Go.Proofs.YtalippdhfkpbmaaDoor
