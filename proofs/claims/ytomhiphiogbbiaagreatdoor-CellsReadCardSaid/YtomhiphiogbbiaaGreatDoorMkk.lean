/- Several texts in one. -/
import Derived.Test.YtomhiphiogbbiaaGreatDoorMke
import Derived.Test.YtomhiphiogbbiaaGreatDoorMkg
import Derived.Test.YtomhiphiogbbiaaGreatDoorMki
import Derived.Test.YtomhiphiogbbiaaGreatDoorMkj
set_option linter.unusedSimpArgs false
set_option linter.unusedVariables false
set_option maxRecDepth 100000
set_option maxHeartbeats 16000000
namespace Go.Proofs.YtomhiphiogbbiaaGreatDoor
open Go.RowKit Go
structure CallOk (s : GState) (args : List GVal) (t : GState) : Prop where
  q : cellsQ wordsT t = 0
  th : t.threads = s.threads
  cs : ∀ c ∈ t.cells, (∀ v ∈ c.vals, (∃ c' ∈ s.cells, v ∈ c'.vals) ∨ v ∈ args ∨ InI v.n) ∧ (c.frames = [] ∨ ∃ c' ∈ s.cells, c.frames = c'.frames)
section
variable {s : GState} {args : List GVal}
theorem CallOk.same (h : cellsQ wordsT s = 0) : CallOk s args s := ⟨h, rfl, fun c hc => ⟨fun v hv => .inl ⟨c, hc, hv⟩, .inr ⟨c, hc, rfl⟩⟩⟩
end


end Go.Proofs.YtomhiphiogbbiaaGreatDoor
