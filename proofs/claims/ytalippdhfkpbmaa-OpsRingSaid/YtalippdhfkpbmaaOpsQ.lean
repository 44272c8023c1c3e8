/- What the operators give is a value: plainly. -/
import Derived.Test.YtalippdhfkpbmaaOpsF
namespace Go.Proofs.Ytalippdhfkpbmaa
open Go.RowKit
def okV (v : VT) : Prop := rightB v.1 v.2.1 = true ∧ (v.2.2 = -1 ∨ (v.1 = 0 ∧ v.2.1 = 0))
theorem ok_zero (t : Int) : okV (0, 0, t) := ⟨by simp [rightB], .inr ⟨rfl, rfl⟩⟩
theorem ok_bit (b : Bool) : okV (1, bit b, -1) := ⟨by cases b <;> simp [rightB, bit], .inl rfl⟩
theorem ok_whole (n : Int) : okV (wholeS n) := by
  unfold wholeS
  split
  · rename_i h
    exact ⟨by simp [rightB, h], .inl rfl⟩
  · exact ok_zero _
theorem ok_of {b : Nat} (h : b < 18446744073709551616) : okV (3, ofN b, -1) := ⟨right_of h, .inl rfl⟩
theorem ok_nan : okV (3, theNaN, -1) := ⟨by simp [rightB], .inl rfl⟩
theorem ok_resF (r : Option Nat) (h : ∀ b, r = some b → b < 18446744073709551616) : okV (resF r) := by
  unfold resF
  cases r with
  | none => exact ok_nan
  | some b => exact ok_of (h b rfl)
theorem ok_unary (op k n : Int) : okV (unaryS op k n) := by
  unfold unaryS
  split
  · exact ok_bit _
  · split
    · exact ok_whole _
    · split
      · exact ok_of (neg_lt (flt_lt _))
      · exact ok_zero _
theorem ok_orderedI (op a b : Int) : okV (orderedI op a b) := by
  unfold orderedI
  repeat' split
  · exact ok_bit _
  · exact ok_bit _
  · exact ok_zero _
theorem ok_orderedF (op : Int) (a b : Nat) : okV (orderedF op a b) := by
  unfold orderedF
  repeat' split
  · exact ok_bit _
  · exact ok_bit _
  · exact ok_zero _
theorem ok_wholes (op a b : Int) : okV (wholesS op a b) := by
  unfold wholesS
  repeat' split
  all_goals first | exact ok_whole _ | exact ok_zero _ | exact ok_orderedI _ _ _
theorem ok_floats (op : Int) (x y : Nat) : okV (floatsS op x y) := by
  unfold floatsS
  split
  · exact ok_resF _ (fun b h => add_b h)
  · split
    · exact ok_resF _ (fun b h => sub_b h)
    · split
      · exact ok_resF _ (fun b h => mul_b h)
      · split
        · exact ok_resF _ (fun b h => div_b h)
        · split
          · exact ok_bit _
          · exact ok_orderedF _ _ _
theorem ok_binary (op ak an bk bn : Int) : okV (binaryS op ak an bk bn) := by
  unfold binaryS binaryT
  split
  · exact ok_floats _ _ _
  · split
    · exact ok_bit _
    · split
      · exact ok_wholes _ _ _
      · exact ok_zero _
end Go.Proofs.Ytalippdhfkpbmaa
