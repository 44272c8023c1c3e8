/- Several texts in one. -/
import Derived.Test.YtbphdcffpobcbaaGreatDoorMj
import Derived.Test.YtbphdcffpobcbaaGreatDoorMko
import Derived.Test.YtbphdcffpobcbaaGreatDoorMla
import Derived.Test.YtbphdcffpobcbaaGreatDoorMlb
set_option linter.unusedSimpArgs false
set_option linter.unusedVariables false
set_option maxRecDepth 100000
set_option maxHeartbeats 16000000
namespace Go.Proofs.YtbphdcffpobcbaaGreatDoor
open Go.RowKit Go
theorem empty_arg : ∀ E w ι vs, RVs E w ι [aD (eState emptyS), .agg [.d .emp, .d .emp, .d .emp, .d .emp, .d .emp, .d .emp, .d (eI 0), .d (eI 0)]] vs → RVs E w ι [aD (eState emptyS), aD (eState emptyS)] vs := no_arg (es := (eState emptyS).map .d) ⟨.inr ⟨rfl, rfl⟩, .inr ⟨rfl, rfl⟩, .inr ⟨rfl, rfl⟩, .inr ⟨rfl, rfl⟩, .inr ⟨rfl, rfl⟩, .inr ⟨rfl, rfl⟩, .inl rfl, .inl rfl, trivial⟩
end Go.Proofs.YtbphdcffpobcbaaGreatDoor
