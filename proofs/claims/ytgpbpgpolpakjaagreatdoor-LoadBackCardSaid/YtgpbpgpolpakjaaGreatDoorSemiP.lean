/- The texts MarkF, FloatC, SemiD, SemiE, in one. -/
import Derived.Test.YtgpbpgpolpakjaaGreatDoorSemiV
import Derived.Test.YtgpbpgpolpakjaaGreatDoorWordP
import Derived.Laws.FloatArith
import Derived.Test.YtgpbpgpolpakjaaGreatDoorFanoQ
/- Plain laws: what an index takes is within its bound. No program in sight. -/

set_option linter.unusedVariables false
set_option linter.unusedSimpArgs false
namespace Go.Proofs.YtgpbpgpolpakjaaGreatDoor
open Go.RowKit L

end Go.Proofs.YtgpbpgpolpakjaaGreatDoor

/- Floats that stand for whole numbers become whole numbers. No program in sight. -/


set_option linter.unusedVariables false
set_option linter.unusedSimpArgs false
namespace Go.Proofs.YtgpbpgpolpakjaaGreatDoor.L
open Go

end Go.Proofs.YtgpbpgpolpakjaaGreatDoor.L

/- Walks: how many bits an index takes (semi); how many marks stand ahead of a place. -/




set_option linter.unusedVariables false
set_option linter.unusedSimpArgs false
set_option maxRecDepth 100000
namespace Go.Proofs.YtgpbpgpolpakjaaGreatDoor
open Go.RowKit Go.Shelf L

end Go.Proofs.YtgpbpgpolpakjaaGreatDoor

/- Walks: the size of an index, its bound (the reference of chapter 14). -/

set_option linter.unusedVariables false
set_option linter.unusedSimpArgs false
set_option maxRecDepth 100000
namespace Go.Proofs.YtgpbpgpolpakjaaGreatDoor
open Go.RowKit Go.Shelf L

end Go.Proofs.YtgpbpgpolpakjaaGreatDoor
