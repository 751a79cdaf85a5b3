/- Walks: bits of words by the reference, Need, and what a row and a builder of bits tell. -/
import Derived.Test.YtlpnbkfcbamnbaaDoorWordA
import Derived.Test.YtlpnbkfcbamnbaaDoorMem
import Derived.Test.YtlpnbkfcbamnbaaDoorMath3
import Derived.Test.YtlpnbkfcbamnbaaDoorShelf
set_option linter.unusedVariables false
set_option linter.unusedSimpArgs false
namespace Go.Proofs.YtlpnbkfcbamnbaaDoor
open Go.RowKit L

set_option maxHeartbeats 400000 in
theorem wneed_any (x : Nat) (w : World) (hx : x < 18446744073709551616) :
    Calls Tryd.prog 101 #[.int .u64 (x : Int)] w fun e w' => e = .returned (.int .i64 (need x : Nat)) ∧ w = w' := by
  go_enter Tryd.func101, Tryd.ntmps101
  go_wp2_with (go_at_call 131; refine (Tryd.bits_Len64 _ _ (by omega) (by omega)).mono ?_; rintro e w' ⟨rfl, rfl⟩)
  go_ret
  exact ⟨rfl, rfl⟩

end Go.Proofs.YtlpnbkfcbamnbaaDoor
