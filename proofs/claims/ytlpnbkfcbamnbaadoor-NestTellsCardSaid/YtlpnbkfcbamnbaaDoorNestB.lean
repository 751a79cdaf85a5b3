/- Walks: nodes by their rank (nest). -/
import Derived.Test.YtlpnbkfcbamnbaaDoorNestA
import Derived.Test.YtlpnbkfcbamnbaaDoorMaths
import Derived.Test.YtlpnbkfcbamnbaaDoorMathV
set_option linter.unusedVariables false
set_option linter.unusedSimpArgs false
set_option maxRecDepth 100000
namespace Go.Proofs.YtlpnbkfcbamnbaaDoor
open Go.RowKit L

theorem nNodes_any (s : Nat) (bs : List Bool) (w : World) (hs : NestAt w s bs) :
    Calls Tryd.prog 32 #[.pointer (some ⟨s, 0, none⟩)] w fun e w' => e = .returned (.int .i64 (kc true bs bs.length : Nat)) ∧ w = w' := by
  obtain ⟨gx, gt, gl, gc, gd, A, c, hh, Ad, cd, A1, c1, l1, A0, c0, l0, h1, h2, h3⟩ := hs
  have k2 : w.cell? ⟨s, 2, none⟩ = some (.pointer (some ⟨gc, 0, none⟩)) := h1.cell 2
  have HG := hid (chOnes_any gc gd gx A c bs Ad cd A1 c1 l1 A0 c0 l0 w h3)
  clear h1 h2 h3
  generalize kc true bs bs.length = r at *
  go_enter Tryd.func32, Tryd.ntmps32
  go_wp2_with fail
  refine (HG.out).mono ?_
  rintro e w' ⟨rfl, rfl⟩
  go_wp2_with fail
  go_ret
  exact ⟨rfl, rfl⟩
set_option maxHeartbeats 400000 in
theorem nNode_at (s : Nat) (bs : List Bool) (k p : Nat) (w : World) (hs : NestAt w s bs) (hT : Tab w) (hb : bitAt bs p = true) (hk : kc true bs p = k) :
    Calls Tryd.prog 33 #[.pointer (some ⟨s, 0, none⟩), .int .i64 (k : Nat)] w fun e w' => e = .returned (.tuple #[.int .i64 (p : Nat), .int .i64 0]) ∧ Below w.heap.size w w' := by
  have hl := bitAt_lt hb
  obtain ⟨gx, gt, gl, gc, gd, A, c, hh, Ad, cd, A1, c1, l1, A0, c0, l0, h1, h2, h3⟩ := hs
  have k2 : w.cell? ⟨s, 2, none⟩ = some (.pointer (some ⟨gc, 0, none⟩)) := h1.cell 2
  have HG := hid (chOne_at gc gd gx A c bs Ad cd A1 c1 l1 A0 c0 l0 k p w h3 hT hl hb hk)
  clear h1 h2 h3 hb hk
  have HF := hid (fun W => nfound_yes (p : Nat) W)
  go_enter Tryd.func33, Tryd.ntmps33
  go_wp2_with fail
  refine (HG.out).mono ?_
  rintro e w1 ⟨rfl, hB1⟩
  go_wp2_with fail
  refine (HF.out _).mono ?_
  rintro e w' ⟨rfl, rfl⟩
  go_wp2_with fail
  go_ret2
  exact ⟨rfl, hB1⟩
end Go.Proofs.YtlpnbkfcbamnbaaDoor
