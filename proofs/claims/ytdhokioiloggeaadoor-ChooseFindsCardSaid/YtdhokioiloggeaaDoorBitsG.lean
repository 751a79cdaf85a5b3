/- Walks: a strings.Builder's bytes; a row's bytes. -/
import Derived.Test.YtdhokioiloggeaaDoorBitsF
import Derived.Lib.Builder
set_option linter.unusedVariables false
set_option linter.unusedSimpArgs false
set_option maxRecDepth 100000
namespace Go.Proofs.YtdhokioiloggeaaDoor
open Go.RowKit L

theorem Tryd.infoU8 : (Tryd.prog.info? 5).map (fun i => (i.zero, i.size, i.bytes)) = some (some (.int .u8 0), 1, 1) := by kernel_rfl

/-- The eight bytes of a number, the least first. -/
def le8 (v : Nat) : List UInt8 := (List.range 8).map fun i => UInt8.ofNat (v / 256 ^ i)

end Go.Proofs.YtdhokioiloggeaaDoor
