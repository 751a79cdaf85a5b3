/- Walks: the reference of chapter 13: marks by definition. -/
import Derived.Test.YtgpbpgpolpakjaaGreatDoorMarkP
import Derived.Test.YtgpbpgpolpakjaaGreatDoorSemiV
set_option linter.unusedVariables false
set_option linter.unusedSimpArgs false
set_option maxRecDepth 100000
namespace Go.Proofs.YtgpbpgpolpakjaaGreatDoor
open Go.RowKit Go.Shelf L

end Go.Proofs.YtgpbpgpolpakjaaGreatDoor
