/- Small words that all walks of this family use. -/
import Derived.Test.YtalippdhfkpbmaaPlanT
import Derived.WalkKit
import Derived.ProofKit
import Derived.WalkLawsBesides
import Derived.WalkSpells
namespace Go.Proofs.Ytalippdhfkpbmaa
open Go.RowKit
theorem bcell {W w1 : World} (hb : Below W.heap.size W w1) : (∀ b o, b < W.heap.size → w1.cell? ⟨b, o, none⟩ = W.cell? ⟨b, o, none⟩) ∧ (∀ b o, b < W.heap.size → w1.frozen? ⟨b, o, none⟩ = W.frozen? ⟨b, o, none⟩) :=
  ⟨fun b o h => hb.cell (p := ⟨b, o, none⟩) h, fun b o h => hb.frozen (p := ⟨b, o, none⟩) h⟩
theorem Below.via {B : Nat} {w W w1 : World} (h : Below B w W) (h1 : Below W.heap.size W w1) (hB : B ≤ W.heap.size) : Below B w w1 := h.trans (h1.mono hB)
end Go.Proofs.Ytalippdhfkpbmaa
