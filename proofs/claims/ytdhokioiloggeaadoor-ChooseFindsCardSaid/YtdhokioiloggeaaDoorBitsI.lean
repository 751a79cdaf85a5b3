/- Walks: the reference's fields, words and bytes of a row. -/
import Derived.Test.YtdhokioiloggeaaDoorBitsH
import Derived.Laws.BytesArg
set_option linter.unusedVariables false
set_option linter.unusedSimpArgs false
set_option maxRecDepth 100000
namespace Go.Proofs.YtdhokioiloggeaaDoor
open Go.RowKit L

theorem or_pow (a i : Nat) (ha : a < 18446744073709551616) (hi : i < 64) : bits BinOp.or IntKind.u64 (a : Int) (IntKind.u64.wrap (2 ^ i)) = ((a ||| 2 ^ i : Nat) : Int) := by
  have h := pow_lt64 hi
  have e : IntKind.u64.wrap (2 ^ i) = ((2 ^ i : Nat) : Int) := by
    rw [IntKind.wrap_u64, show ((2 : Int) ^ i) = ((2 ^ i : Nat) : Int) from by simp]
    generalize (2 : Nat) ^ i = q at h ⊢
    omega
  rw [e]; exact u64_or_nat _ _ ha h

end Go.Proofs.YtdhokioiloggeaaDoor
