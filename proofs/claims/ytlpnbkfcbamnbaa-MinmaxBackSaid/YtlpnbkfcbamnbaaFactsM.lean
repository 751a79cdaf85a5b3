/- Closed facts of the seat: the types of chapter 07's arguments. -/
import Derived.Test.YtlpnbkfcbamnbaaRows
import Derived.Test.YtlpnbkfcbamnbaaOpen
set_option linter.unusedVariables false
set_option maxRecDepth 100000
namespace Go.Proofs.Ytlpnbkfcbamnbaa
theorem rd_pieces : Try.prog.readableRec 22 = true ∧ 22 < Try.prog.types.size := ⟨by kernel_rfl, of_decide_eq_true (by kernel_rfl)⟩
theorem rd_ask2s : Try.prog.readableRec 40 = true ∧ 40 < Try.prog.types.size := ⟨by kernel_rfl, of_decide_eq_true (by kernel_rfl)⟩
theorem rd_ask2 : Try.prog.readableRec 24 = true ∧ 24 < Try.prog.types.size := ⟨by kernel_rfl, of_decide_eq_true (by kernel_rfl)⟩
end Go.Proofs.Ytlpnbkfcbamnbaa
