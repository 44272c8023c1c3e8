/- Small words that all walks of this family use. -/
import Derived.Test.YtalippdhfkpbmaaDoorPlanT
import Derived.WalkKit
import Derived.ProofKit
import Derived.WalkLawsBesides
import Derived.WalkSpells
namespace Go.Proofs.YtalippdhfkpbmaaDoor
open Go.RowKit
theorem bcell {B : Nat} {W w1 : World} (hb : Below B W w1) : (∀ b o, b < B → w1.cell? ⟨b, o, none⟩ = W.cell? ⟨b, o, none⟩) ∧ (∀ b o, b < B → w1.frozen? ⟨b, o, none⟩ = W.frozen? ⟨b, o, none⟩) :=
  ⟨fun b o h => hb.cell (p := ⟨b, o, none⟩) h, fun b o h => hb.frozen (p := ⟨b, o, none⟩) h⟩
/-- A goal at which the walk stands still. -/
def Stay (p : Prop) : Prop := p
theorem Stay.out {p : Prop} (h : Stay p) : p := h
theorem Stay.mk {p : Prop} (h : p) : Stay p := h
theorem Below.via {B B' : Nat} {w W w1 : World} (h : Below B w W) (h1 : Below B' W w1) (hB : B ≤ B') : Below B w w1 := h.trans (h1.mono hB)
end Go.Proofs.YtalippdhfkpbmaaDoor
