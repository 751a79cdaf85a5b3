/- The texts BitsJ, BitsK, in one. -/
import Derived.Test.YtgpbpgpolpakjaaGreatDoorBitsP
import Derived.Test.YtgpbpgpolpakjaaGreatDoorMaths
import Derived.Lib.IndexBytes
/- Walks: the row of some bytes. -/



set_option linter.unusedVariables false
set_option linter.unusedSimpArgs false
set_option maxRecDepth 100000
namespace Go.Proofs.YtgpbpgpolpakjaaGreatDoor
open Go.RowKit L

end Go.Proofs.YtgpbpgpolpakjaaGreatDoor

/- Walks: the reference's row of some bytes. -/

set_option linter.unusedVariables false
set_option linter.unusedSimpArgs false
set_option maxRecDepth 100000
namespace Go.Proofs.YtgpbpgpolpakjaaGreatDoor
open Go.RowKit L

end Go.Proofs.YtgpbpgpolpakjaaGreatDoor
