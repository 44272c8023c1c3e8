/- Several texts in one. -/
import Derived.Test.YtbphdcffpobcbaaGreatDoorMkf
set_option linter.unusedSimpArgs false
set_option linter.unusedVariables false
set_option maxRecDepth 100000
set_option maxHeartbeats 16000000
namespace Go.Proofs.YtbphdcffpobcbaaGreatDoor
open Go.RowKit Go




end Go.Proofs.YtbphdcffpobcbaaGreatDoor
