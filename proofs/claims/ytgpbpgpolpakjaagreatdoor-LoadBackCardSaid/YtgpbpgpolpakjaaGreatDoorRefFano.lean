/- The texts RefFanoA, RefFanoB, RefFanoC, in one. -/
import Derived.Test.YtgpbpgpolpakjaaGreatDoorFanoQ
import Derived.Test.YtgpbpgpolpakjaaGreatDoorBitsQ
import Derived.Test.YtgpbpgpolpakjaaGreatDoorLawFanoP
/- Walks: the reference of numbers that rise: bits of a number; the rows; the bytes. -/



set_option linter.unusedVariables false
set_option linter.unusedSimpArgs false
set_option maxRecDepth 100000
namespace Go.Proofs.YtgpbpgpolpakjaaGreatDoor
open Go.RowKit Go.Shelf L

/-- Two rows of bools, apart, each its owner's. -/
def TwoOwn (w : World) (base : Nat) (v1 : Value) (xs1 : List Bool) (v2 : Value) (xs2 : List Bool) : Prop :=
  w.ownsRow base 4 1 v1 xs1.length (bools xs1) ∧ w.ownsRow base 4 1 v2 xs2.length (bools xs2) ∧ ∀ k, v1.ownBlock = some k → v2.ownBlock ≠ some k
theorem TwoOwn.symm {w : World} {base : Nat} {v1 v2 : Value} {xs1 xs2 : List Bool} (h : TwoOwn w base v1 xs1 v2 xs2) : TwoOwn w base v2 xs2 v1 xs1 := ⟨h.2.1, h.1, fun k h1 h2 => h.2.2 k h2 h1⟩
theorem TwoOwn.below {w w' : World} {base : Nat} {v1 v2 : Value} {xs1 xs2 : List Bool} (h : TwoOwn w base v1 xs1 v2 xs2) (hb : Below w.heap.size w w') : TwoOwn w' base v1 xs1 v2 xs2 :=
  ⟨own_only h.1 (Only.of_below (S := fun _ => False) hb) (fun _ _ => id), own_only h.2.1 (Only.of_below (S := fun _ => False) hb) (fun _ _ => id), h.2.2⟩
end Go.Proofs.YtgpbpgpolpakjaaGreatDoor

/- Walks: the reference of numbers that rise: the rows. -/

set_option linter.unusedVariables false
set_option linter.unusedSimpArgs false
set_option maxRecDepth 100000
namespace Go.Proofs.YtgpbpgpolpakjaaGreatDoor
open Go.RowKit Go.Shelf L

end Go.Proofs.YtgpbpgpolpakjaaGreatDoor

/- Walks: the reference of numbers that rise: the bytes. -/

set_option linter.unusedVariables false
set_option linter.unusedSimpArgs false
set_option maxRecDepth 100000
namespace Go.Proofs.YtgpbpgpolpakjaaGreatDoor
open Go.RowKit Go.Shelf L

end Go.Proofs.YtgpbpgpolpakjaaGreatDoor
