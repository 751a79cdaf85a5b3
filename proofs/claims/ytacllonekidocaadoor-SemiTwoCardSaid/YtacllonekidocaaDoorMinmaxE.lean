/- Walks: what a tree tells (minmax): excesses, what may be, balance, size. -/
import Derived.Test.YtacllonekidocaaDoorMinmaxD
set_option linter.unusedVariables false
set_option linter.unusedSimpArgs false
set_option maxRecDepth 100000
namespace Go.Proofs.YtacllonekidocaaDoor
open Go.RowKit L

theorem L.held_clamp (n : Nat) (i : Int) : ((held n i : Nat) : Int) = min (max i 0) (n : Int) := by unfold held; omega

end Go.Proofs.YtacllonekidocaaDoor
