/- Walks: small functions of the laws of chapter 08: is. -/
import Derived.Test.YtlpnbkfcbamnbaaDoorNestH
set_option linter.unusedVariables false
set_option linter.unusedSimpArgs false
set_option maxRecDepth 100000
namespace Go.Proofs.YtlpnbkfcbamnbaaDoor
open Go.RowKit L

set_option maxHeartbeats 400000 in
theorem is8_none (A : Option Addr) (len c : Nat) (n : Int) (w : World) (h : n < 0) :
    Calls Tryd.prog 98 #[.int .i64 0, .int .i64 7, .slice A len c, .int .i64 n] w fun e w' => e = .returned (.bool true) ∧ w = w' := by
  go_enter Tryd.func98, Tryd.ntmps98
  go_wp2_with fail
  go_ret
  exact ⟨by first | rfl | simp, rfl⟩
set_option maxHeartbeats 400000 in
theorem is8_at (ab ao : Nat) (len c j : Nat) (at' : Int) (w : World) (hj : j < len) (hc : w.cell? ⟨ab, ao + j * 4, none⟩ = some (.int .i64 at')) :
    Calls Tryd.prog 98 #[.int .i64 at', .int .i64 0, .slice (some ⟨ab, ao, none⟩) len c, .int .i64 (j : Nat)] w fun e w' => e = .returned (.bool true) ∧ w = w' := by
  have h2 : ¬ ((j : Int) < 0) := by omega
  have h3 : (j : Int) < (len : Int) := by omega
  have h4 : (0 : Int) ≤ (j : Int) := by omega
  go_enter Tryd.func98, Tryd.ntmps98
  go_wp2_with fail
  go_ret
  exact ⟨by first | rfl | simp, rfl⟩
end Go.Proofs.YtlpnbkfcbamnbaaDoor
