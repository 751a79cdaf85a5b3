/- Closed facts of the seat: the types of chapter 07's arguments. -/
import Derived.Test.YtlpnbkfcbamnbaaDoorRows
import Derived.Test.YtlpnbkfcbamnbaaDoorOpen
set_option linter.unusedVariables false
set_option maxRecDepth 100000
namespace Go.Proofs.YtlpnbkfcbamnbaaDoor
theorem rd_pieces : Tryd.prog.readableRec 58 = true ∧ 58 < Tryd.prog.types.size := ⟨by kernel_rfl, of_decide_eq_true (by kernel_rfl)⟩
end Go.Proofs.YtlpnbkfcbamnbaaDoor
