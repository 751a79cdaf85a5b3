/- Closed facts of the tied seat that each claim uses, computed by the kernel; what the table's reading gives the walks. -/
import Derived.Test.YtacllonekidocaaDoorRows
import Derived.Test.YtacllonekidocaaDoorTie
import Derived.Test.YtacllonekidocaaDoorOpen
import Derived.Test.YtacllonekidocaaDoorWordP
import Derived.Lib.LaidTab
import Derived.LaidMore
import Derived.Stop.Joined
set_option linter.unusedVariables false
set_option maxRecDepth 100000
namespace Go.Proofs.YtacllonekidocaaDoor
open Go.ChangeShapes Go.WideShapes Go.ChangeAt Go.RowKit
theorem own : ownKnob Tryd.prog.godebug = none := by kernel_rfl
theorem laidOut : laidOutB Tryd.prog = true := by kernel_rfl
theorem gTab : Tryd.prog.globalNamed "math/bits.deBruijn64tab" = some 1 := by kernel_rfl
theorem tTab : (Tryd.prog.globals[1]?).map (·.type) = some 137 := by kernel_rfl
theorem cTab : Tryd.prog.cellsOf 137 = 64 := by kernel_rfl
theorem cByte : Tryd.prog.cellsOf 5 = 1 := by kernel_rfl
theorem door_met (os : Os) (args : Array Value) : laidMetH Tryd.prog [("math/bits.deBruijn64tab", Rows.laid_math_bits_deBruijn64tab)] ((World.doorLaid Tryd.prog 400 os).forCall (fun _ _ => 0) ⟨#[], args, []⟩).memory :=
  laidMetH_of_parts3 (fuel := 8) (laidMet_of_run' 8 (by kernel_rfl) (by kernel_rfl)) (by kernel_rfl) (by kernel_rfl)
theorem tab_of_laid {W : World} (h : laidMetH Tryd.prog [("math/bits.deBruijn64tab", Rows.laid_math_bits_deBruijn64tab)] W) : Tab W := by
  rw [MakeChecks.laidMetH_plain _ _ _ (by kernel_rfl)] at h
  have h2 : laidMet Tryd.prog [("math/bits.deBruijn64tab", Lib.tabData .u8 (Lib.deBruijn64tab.map Int.ofNat))] W := h
  have h3 := Lib.tabIs_of_head gTab tTab Tryd.underlying137 Tryd.underlying5 cByte cTab h2
  intro j hj
  have h4 := h3.cell gTab j (by rw [List.length_map, show Lib.deBruijn64tab.length = 64 from rfl]; exact hj)
  rw [h4]
  have e : ∀ i, i < 64 → (Lib.deBruijn64tab.map Int.ofNat).getD i 0 = ((Lib.deBruijn64tab.getD i 0 : Nat) : Int) := by decide
  rw [e j hj]
theorem rd_ints : Tryd.prog.readableRec 34 = true ∧ 34 < Tryd.prog.types.size := ⟨by kernel_rfl, of_decide_eq_true (by kernel_rfl)⟩
theorem rd_u8 : Tryd.prog.readableRec 5 = true ∧ 5 < Tryd.prog.types.size := ⟨by kernel_rfl, of_decide_eq_true (by kernel_rfl)⟩
theorem rd_u64 : Tryd.prog.readableRec 86 = true ∧ 86 < Tryd.prog.types.size := ⟨by kernel_rfl, of_decide_eq_true (by kernel_rfl)⟩
theorem rd_i64 : Tryd.prog.readableRec 3 = true ∧ 3 < Tryd.prog.types.size := ⟨by kernel_rfl, of_decide_eq_true (by kernel_rfl)⟩
theorem rd_str : Tryd.prog.readableRec 9 = true ∧ 9 < Tryd.prog.types.size := ⟨by kernel_rfl, of_decide_eq_true (by kernel_rfl)⟩
theorem rd_bools : Tryd.prog.readableRec 42 = true ∧ 42 < Tryd.prog.types.size := ⟨by kernel_rfl, of_decide_eq_true (by kernel_rfl)⟩
end Go.Proofs.YtacllonekidocaaDoor
