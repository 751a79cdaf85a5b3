/- The texts RefI, RefJ, RefE, LawRef, in one. -/
import Derived.Test.YtgpbpgpolpakjaaGreatDoorRefQ
import Derived.Test.YtgpbpgpolpakjaaGreatDoorScanR
import Derived.Test.YtgpbpgpolpakjaaGreatDoorRefP
import Derived.Test.YtgpbpgpolpakjaaGreatDoorAutoP
import Derived.Test.YtgpbpgpolpakjaaGreatDoorScanQ
/- Walks: reference 09: how far bytes are alive that begin with no scalar. -/


set_option linter.unusedVariables false
set_option linter.unusedSimpArgs false
set_option maxRecDepth 100000
namespace Go.Proofs.YtgpbpgpolpakjaaGreatDoor
open Go.RowKit Go.Shelf L

end Go.Proofs.YtgpbpgpolpakjaaGreatDoor

/- Walks: reference 12: a string. -/


set_option linter.unusedVariables false
set_option linter.unusedSimpArgs false
set_option maxRecDepth 100000
namespace Go.Proofs.YtgpbpgpolpakjaaGreatDoor
open Go.RowKit Go.Shelf L

section
variable {l : List Nat} {k p : Nat}
end

end Go.Proofs.YtgpbpgpolpakjaaGreatDoor

/- Walks: reference 12: a number, the walk. -/

set_option linter.unusedVariables false
set_option linter.unusedSimpArgs false
set_option maxRecDepth 100000
namespace Go.Proofs.YtgpbpgpolpakjaaGreatDoor
open Go.RowKit Go.Shelf L

end Go.Proofs.YtgpbpgpolpakjaaGreatDoor

/- Plain laws: a value, a member, what stands in brackets, in the automaton's words. No program in sight. -/




set_option linter.unusedVariables false
set_option linter.unusedSimpArgs false
namespace Go.Proofs.YtgpbpgpolpakjaaGreatDoor
open L

section
variable {l : List Nat} {t ok : Bool} {k k1 k' p p' p2 d d' dd : Nat}
end

end Go.Proofs.YtgpbpgpolpakjaaGreatDoor
