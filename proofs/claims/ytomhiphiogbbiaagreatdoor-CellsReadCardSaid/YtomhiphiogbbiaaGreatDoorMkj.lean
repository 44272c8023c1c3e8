/- Several texts in one. -/
import Derived.Lib.SliceRun
import Derived.Deep.RegionLaw
import Derived.Test.YtomhiphiogbbiaaGreatDoorMb
import Derived.Test.YtomhiphiogbbiaaGreatDoorMc
import Derived.Test.YtomhiphiogbbiaaGreatDoorMd
import Derived.Test.YtomhiphiogbbiaaGreatDoorMe
import Derived.Test.YtomhiphiogbbiaaGreatDoorMki
set_option linter.unusedSimpArgs false
set_option linter.unusedVariables false
set_option maxRecDepth 100000
set_option maxHeartbeats 16000000
namespace Go.Proofs.YtomhiphiogbbiaaGreatDoor
open Go.RowKit Go






end Go.Proofs.YtomhiphiogbbiaaGreatDoor
