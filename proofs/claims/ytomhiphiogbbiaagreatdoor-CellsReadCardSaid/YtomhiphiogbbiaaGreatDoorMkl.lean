/- Several texts in one. -/
import Derived.Test.YtomhiphiogbbiaaGreatDoorMe
import Derived.Test.YtomhiphiogbbiaaGreatDoorMka
import Derived.Test.YtomhiphiogbbiaaGreatDoorMkb
import Derived.Test.YtomhiphiogbbiaaGreatDoorMkj
set_option linter.unusedSimpArgs false
set_option linter.unusedVariables false
set_option maxRecDepth 100000
set_option maxHeartbeats 16000000
namespace Go.Proofs.YtomhiphiogbbiaaGreatDoor
open Go.RowKit Go
theorem m2 (A : Nat → Sem Value) (B : Array Value → Sem Value) (x : Nat) : Extern.MathFloor.toIntegral.match_2 (motive := fun _ => Sem Value) #[.float .f64 x] A B = A x := rfl


end Go.Proofs.YtomhiphiogbbiaaGreatDoor
