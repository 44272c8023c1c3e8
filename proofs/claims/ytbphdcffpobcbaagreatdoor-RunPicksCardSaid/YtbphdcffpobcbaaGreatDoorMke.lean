/- Several texts in one. -/
import Derived.Test.YtbphdcffpobcbaaGreatDoorMka
import Derived.Test.YtbphdcffpobcbaaGreatDoorMkb
import Derived.Test.YtbphdcffpobcbaaGreatDoorMkd
set_option linter.unusedSimpArgs false
set_option linter.unusedVariables false
set_option maxRecDepth 100000
set_option maxHeartbeats 16000000
namespace Go.Proofs.YtbphdcffpobcbaaGreatDoor
open Go.RowKit Go
structure CallK (H : Hp) (nx lo nS : Nat) (A : Ad → Nat) (s : GState) (R : GState × GVal × Int) (K : D → Hp → Nat → Prop) : Prop where
  bad : 0 ≤ R.2.2 → ∀ nx', nx ≤ nx' → K (.tup [aD (eVal nilG), dI R.2.2]) H nx'
  ok : R.2.2 = -1 → ∀ H' nx' A', nx ≤ nx' → (∀ q, q < nx → (∀ x, Live s x → q ≠ A x) → q ≠ nS → H' q = H q) → (∀ q, nx' ≤ q → H' q = none) → HSol H' → OwnS H' lo A' R.1 → H' nS = some (stB A' R.1) → (∀ x, Live R.1 x → (∃ y, Live s y ∧ A' x = A y) ∨ nx ≤ A' x) → K (.tup [aD (eVal R.2.1), dI (-1)]) H' nx'
def argB (s : GState) (b : UInt8) (v : GVal) : Bool :=
  if (b.toNat : Int) = 108 then namesB s v 2 else if (b.toNat : Int) = 111 then namesB s v 1 else if (b.toNat : Int) = 110 then decide (v.kind = 2) else if (b.toNat : Int) = 102 then decide (v.kind = 3) else if (b.toNat : Int) = 103 then namesB s v 5 else if (b.toNat : Int) = 119 then namesB s v 7 else if (b.toNat : Int) = 114 then decide (v.kind = 5) else if (b.toNat : Int) = 99 then namesB s v 4 else true
noncomputable def textW (s : GState) (v : GVal) : ByteArray :=
  if v.kind = 0 then ⟨#[110, 105, 108]⟩ else if v.kind = 1 then (if v.n = 1 then "true".toUTF8 else "false".toUTF8) else if v.kind = 2 then ⟨(Lib.itoa v.n).toArray⟩ else if v.kind = 3 then ⟨(35 :: hexF 16 (IntKind.u64.wrap v.n).toNat).toArray⟩
  else if v.kind = 4 then s.texts.getD v.n.toNat ByteArray.empty else ⟨#[91]⟩ ++ s.texts.getD (kindW s v).toNat ByteArray.empty ++ ⟨#[93]⟩
theorem cells_text {s : GState} {v : GVal} (hv : fitsB s v = true) (hk : v.kind = 4) : 0 ≤ v.n ∧ v.n < s.texts.length := by
  simp only [fitsB, Bool.and_eq_true] at hv
  have h2 := hv.2
  rw [if_pos hk] at h2
  exact ⟨right_pos hv.1 (.inl hk), by simpa using h2⟩
theorem CallK.same {H : Hp} {nx lo nS : Nat} {A : Ad → Nat} {s : GState} {w : GVal} {K : D → Hp → Nat → Prop} (hK : CallK H nx lo nS A s (s, w, -1) K) (hfr : ∀ i, nx ≤ i → H i = none) (hSol : HSol H) (hO : OwnS H lo A s) (hS : H nS = some (stB A s)) (nx' : Nat) (hn : nx ≤ nx') : K (.tup [aD (eVal w), dI (-1)]) H nx' :=
  hK.ok rfl H nx' A hn (fun _ _ _ _ => rfl) (fun p hp => hfr p (by omega)) hSol hO hS fun x hx => .inl ⟨x, hx, rfl⟩
section
variable {s : GState}
end
end Go.Proofs.YtbphdcffpobcbaaGreatDoor
