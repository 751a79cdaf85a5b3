/- The texts RefN, LSplitC, in one. -/
import Derived.Test.YtgpbpgpolpakjaaGreatDoorSplitP
import Derived.Test.YtgpbpgpolpakjaaGreatDoorRefS
import Derived.Deep.RegionWith
/- Walks: reference 24: a file's records; the law that asks it. -/



set_option linter.unusedVariables false
set_option linter.unusedSimpArgs false
set_option maxRecDepth 100000
namespace Go.Proofs.YtgpbpgpolpakjaaGreatDoor
open Go.RowKit Go.Shelf L

end Go.Proofs.YtgpbpgpolpakjaaGreatDoor

/- Walks: the laws of chapter 24: the records are the file. -/

set_option linter.unusedVariables false
set_option linter.unusedSimpArgs false
set_option maxRecDepth 100000
namespace Go.Proofs.YtgpbpgpolpakjaaGreatDoor
open Go.RowKit Go.Shelf L

theorem lo_nat (n a : Nat) (h : a ≤ n) : lo24 n (a : Int) = a := by unfold lo24; omega
theorem hi_nat (n a b : Nat) (h : a ≤ b) (h2 : b ≤ n) : hi24 n (a : Int) (b : Int) = b := by unfold hi24; rw [lo_nat n a (by omega)]; omega
end Go.Proofs.YtgpbpgpolpakjaaGreatDoor
