/- The texts RefK, RefL, RefM, in one. -/
import Derived.Test.YtgpbpgpolpakjaaGreatDoorRefR
import Derived.Test.YtgpbpgpolpakjaaGreatDoorRefQ
/- Walks: reference 12: a value, of what stands behind it (printed by gen/refvalue.py). -/



set_option linter.unusedVariables false
set_option linter.unusedSimpArgs false
set_option maxRecDepth 100000
namespace Go.Proofs.YtgpbpgpolpakjaaGreatDoor
open Go.RowKit Go.Shelf L

end Go.Proofs.YtgpbpgpolpakjaaGreatDoor

/- Walks: reference 12: a member, what stands in brackets. -/

set_option linter.unusedVariables false
set_option linter.unusedSimpArgs false
set_option maxRecDepth 100000
namespace Go.Proofs.YtgpbpgpolpakjaaGreatDoor
open Go.RowKit Go.Shelf L

end Go.Proofs.YtgpbpgpolpakjaaGreatDoor

/- Walks: reference 12: a text, the verdict; the law that asks it. -/


set_option linter.unusedVariables false
set_option linter.unusedSimpArgs false
set_option maxRecDepth 100000
namespace Go.Proofs.YtgpbpgpolpakjaaGreatDoor
open Go.RowKit Go.Shelf L

end Go.Proofs.YtgpbpgpolpakjaaGreatDoor
