/- Proof text. -/
import Derived.Test.YtgpbpgpolpakjaaGreatDoorRows
import Derived.Test.YtgpbpgpolpakjaaGreatDoorTie
import Derived.Test.YtgpbpgpolpakjaaGreatDoorOpen
import Derived.Test.YtgpbpgpolpakjaaGreatDoorWordP
import Derived.Lib.LaidTab
import Derived.LaidMore
import Derived.Stop.Joined
set_option linter.unusedVariables false
set_option maxRecDepth 100000
namespace Go.Proofs.YtgpbpgpolpakjaaGreatDoor
open Go.ChangeShapes Go.WideShapes Go.ChangeAt Go.RowKit
theorem own : ownKnob Tryz.prog.godebug = none := by kernel_rfl
theorem laidOut : laidOutB Tryz.prog = true := by kernel_rfl
theorem gTab : Tryz.prog.globalNamed "math/bits.deBruijn64tab" = some 1 := by kernel_rfl
theorem tTab : (Tryz.prog.globals[1]?).map (·.type) = some 247 := by kernel_rfl
theorem cTab : Tryz.prog.cellsOf 247 = 64 := by kernel_rfl
theorem z9b : Tryz.prog.cellsOf 5 = 1 := by kernel_rfl
theorem z4p (os : Os) (args : Array Value) : laidMetH Tryz.prog [("math/bits.deBruijn64tab", Rows.laid_math_bits_deBruijn64tab)] ((World.doorLaid Tryz.prog 400 os).forCall (fun _ _ => 0) ⟨#[], args, []⟩).memory :=
 laidMetH_of_parts3 (fuel := 8) (laidMet_of_run' 8 (by kernel_rfl) (by kernel_rfl)) (by kernel_rfl) (by kernel_rfl)
theorem zvy {W : World} (h : laidMetH Tryz.prog [("math/bits.deBruijn64tab", Rows.laid_math_bits_deBruijn64tab)] W) : Tab W := by
 rw [MakeChecks.laidMetH_plain _ _ _ (by kernel_rfl)] at h
 have h2 : laidMet Tryz.prog [("math/bits.deBruijn64tab", Lib.tabData .u8 (Lib.deBruijn64tab.map Int.ofNat))] W := h
 have h3 := Lib.tabIs_of_head gTab tTab Tryz.underlying247 Tryz.underlying5 z9b cTab h2
 intro j hj
 have h4 := h3.cell gTab j (by rw [List.length_map, show Lib.deBruijn64tab.length = 64 from rfl]; exact hj)
 rw [h4]
 have e : ∀ i, i < 64 → (Lib.deBruijn64tab.map Int.ofNat).getD i 0 = ((Lib.deBruijn64tab.getD i 0 : Nat) : Int) := by decide
 rw [e j hj]
theorem z1e : Tryz.prog.readableRec 9 = true ∧ 9 < Tryz.prog.types.size := ⟨by kernel_rfl, of_decide_eq_true (by kernel_rfl)⟩
end Go.Proofs.YtgpbpgpolpakjaaGreatDoor
