/- The texts FanoN, FanoP, in one. -/
import Derived.Test.YtgpbpgpolpakjaaGreatDoorFanoQ
import Derived.Test.YtgpbpgpolpakjaaGreatDoorBitsQ
/- Plain laws, and walks: numbers that rise: bits that are a sequence's; sound. -/

set_option linter.unusedVariables false
set_option linter.unusedSimpArgs false
set_option maxRecDepth 100000
namespace Go.Proofs.YtgpbpgpolpakjaaGreatDoor
open Go.RowKit Go.Shelf L

/-- The bits of right numbers. -/
def L.IsSeq (x : List Bool) (l : List Nat) (B : Nat) : Prop := RightN l B ∧ l.length < 16777216 ∧ x = seqB (wd l.length B) (top l B) l B
/-- What bits tell, read as a sequence's. -/
def L.told (x : List Bool) (n B : Nat) : List Nat := gl (wd n B) ((x.drop 65).take (n * wd n B)) 0 0 (x.drop (65 + n * wd n B))
end Go.Proofs.YtgpbpgpolpakjaaGreatDoor

/- Walks: numbers that rise: of bytes. -/


set_option linter.unusedVariables false
set_option linter.unusedSimpArgs false
set_option maxRecDepth 100000
namespace Go.Proofs.YtgpbpgpolpakjaaGreatDoor
open Go.RowKit Go.Shelf L

end Go.Proofs.YtgpbpgpolpakjaaGreatDoor
