/- Walks: nodes by their rank (nest). -/
import Derived.Test.YtacllonekidocaaGreatDoorNestA
import Derived.Test.YtacllonekidocaaGreatDoorMaths
import Derived.Test.YtacllonekidocaaGreatDoorMathsB
set_option linter.unusedVariables false
set_option linter.unusedSimpArgs false
set_option maxRecDepth 100000
namespace Go.Proofs.YtacllonekidocaaGreatDoor
open Go.RowKit L

theorem nNodes_any (s : Nat) (bs : List Bool) (w : World) (hs : NestAt w s bs) :
    Calls Tryz.prog 15 #[.pointer (some ⟨s, 0, none⟩)] w fun e w' => e = .returned (.int .i64 (kc true bs bs.length : Nat)) ∧ w = w' := by
  obtain ⟨gx, gt, gl, gc, gd, A, c, hh, Ad, cd, A1, c1, l1, A0, c0, l0, h1, h2, h3⟩ := hs
  have k2 : w.cell? ⟨s, 2, none⟩ = some (.pointer (some ⟨gc, 0, none⟩)) := h1.cell 2
  have HG := hid (chOnes_any gc gd gx A c bs Ad cd A1 c1 l1 A0 c0 l0 w h3)
  clear h1 h2 h3
  generalize kc true bs bs.length = r at *
  go_enter Tryz.func15, Tryz.ntmps15
  go_wp2_with fail
  refine (HG.out).mono ?_
  rintro e w' ⟨rfl, rfl⟩
  go_wp2_with fail
  go_ret
  exact ⟨rfl, rfl⟩
end Go.Proofs.YtacllonekidocaaGreatDoor
