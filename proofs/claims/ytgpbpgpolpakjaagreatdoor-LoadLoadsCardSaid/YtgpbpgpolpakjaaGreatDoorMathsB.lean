/- Proof text. -/
import Derived.Test.YtgpbpgpolpakjaaGreatDoorMaths
set_option linter.unusedVariables false
set_option linter.unusedSimpArgs false
namespace Go.Proofs.YtgpbpgpolpakjaaGreatDoor.L
end Go.Proofs.YtgpbpgpolpakjaaGreatDoor.L
namespace Go.Proofs.YtgpbpgpolpakjaaGreatDoor.L
def e0 (f : Nat → Bool) (q : Nat) : Int := eb f 0 q
section
variable {f : Nat → Bool} {n : Nat}
end
end Go.Proofs.YtgpbpgpolpakjaaGreatDoor.L
namespace Go.Proofs.YtgpbpgpolpakjaaGreatDoor.L
section
variable {f : Nat → Bool} {n : Nat}
end
end Go.Proofs.YtgpbpgpolpakjaaGreatDoor.L
namespace Go.Proofs.YtgpbpgpolpakjaaGreatDoor.L
section
variable {f : Nat → Bool} {n : Nat}
end
end Go.Proofs.YtgpbpgpolpakjaaGreatDoor.L
namespace Go.Proofs.YtgpbpgpolpakjaaGreatDoor.L
section
end
end Go.Proofs.YtgpbpgpolpakjaaGreatDoor.L
