/- The texts LawSemiA, LawSemiC, in one. -/
import Derived.Test.YtgpbpgpolpakjaaGreatDoorSemiV
import Derived.Test.YtgpbpgpolpakjaaGreatDoorSemiW
/- Walks: the law SemiTwo returns true. -/

set_option linter.unusedVariables false
set_option linter.unusedSimpArgs false
set_option maxRecDepth 100000
namespace Go.Proofs.YtgpbpgpolpakjaaGreatDoor
open Go.RowKit Go.Shelf L

end Go.Proofs.YtgpbpgpolpakjaaGreatDoor

/- Walks: Is: an index is a record's. -/


set_option linter.unusedVariables false
set_option linter.unusedSimpArgs false
set_option maxRecDepth 100000
namespace Go.Proofs.YtgpbpgpolpakjaaGreatDoor
open Go.RowKit Go.Shelf L

end Go.Proofs.YtgpbpgpolpakjaaGreatDoor
