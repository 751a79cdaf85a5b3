/- Walks: the reference's Put and All; a row made of bits. -/
import Derived.Test.YtlpnbkfcbamnbaaDoorBitsC
set_option linter.unusedVariables false
set_option linter.unusedSimpArgs false
set_option maxRecDepth 100000
namespace Go.Proofs.YtlpnbkfcbamnbaaDoor
open Go.RowKit L

theorem Tryd.infoBool : (Tryd.prog.info? 4).map (fun i => (i.zero, i.size, i.bytes)) = some (some (.bool false), 1, 1) := by kernel_rfl

theorem L.bitsOf_succ (x k : Nat) : bitsOf x (k + 1) = bitsOf x k ++ [x.testBit k] := by simp [bitsOf, List.range_succ]
theorem bools_append (a b : List Bool) : bools (a ++ b) = bools a ++ bools b := by simp [bools]

end Go.Proofs.YtlpnbkfcbamnbaaDoor
