/- Walks: the laws of chapter 08: awake; NestDeep returns true. -/
import Derived.Test.YtlpnbkfcbamnbaaDoorNestA
import Derived.Test.YtlpnbkfcbamnbaaDoorMount
set_option linter.unusedVariables false
set_option linter.unusedSimpArgs false
set_option maxRecDepth 100000
namespace Go.Proofs.YtlpnbkfcbamnbaaDoor
open Go.RowKit L

theorem lst_4n {w : World} {g : Nat} {T : TypeId} {x y z u : Value} (h : BlkIs w g T #[x, y, z, u]) : Lst w (some ⟨g, 0, none⟩) [x, y, z, u] := fun i u hi => ⟨_, rfl, by
  rw [add_zero_, h.cell i]; simpa using hi⟩

set_option maxHeartbeats 1000000 in
theorem awake8 (w : World) : Calls Tryd.prog 28 #[] w fun e w' => e = .returned (.bool true) ∧ Below w.heap.size w w' := by
  have hB0 := (Below.refl w.heap.size w).alloc (Nat.le_refl _) (.cells #[.bool true, .bool true, .bool false, .bool false] 4)
  have hz0 := hB0.size
  have hl : Lst (w.alloc (.cells #[.bool true, .bool true, .bool false, .bool false] 4)) (some ⟨w.heap.size, 0, none⟩) (bools [true, true, false, false]) := lst_4n (BlkIs.new _ _ _)
  have e1 : forthN (bitAt [true, true, false, false]) 0 4 0 = 3 := by decide
  have e2 : bal (bitAt [true, true, false, false]) 4 = true := by decide
  have HCL := hid (fun s W (t : NestAt W s [true, true, false, false]) => show Calls Tryd.prog 43 #[.pointer (some ⟨s, 0, none⟩), .int .i64 0] W fun e w' => e = .returned (.tuple #[.int .i64 3, .int .i64 0]) ∧ ∃ m, w' = W.drewN m from by
    have := nClose_at s [true, true, false, false] 0 W t (by decide)
    rwa [show ([true, true, false, false] : List Bool).length = 4 from rfl, e1] at this)
  have HNW := hid (fun gx A c W hW => nestNew_any gx A c [true, true, false, false] W hW e2)
  clear e1 e2
  go_enter Tryd.func28, Tryd.ntmps28
  go_wp2_with fail
  refine (made_any (some ⟨w.heap.size, 0, none⟩) 4 [true, true, false, false] _ hl (by decide)).mono ?_
  rintro e w1 ⟨g1, A1, c1, rfl, hr1, _, _, hB1⟩
  have hBa := hB0.trans (hB1.mono hz0)
  have hza := hBa.size
  go_wp2_with fail
  refine (HNW.out g1 A1 c1 w1 hr1).mono ?_
  rintro e w2 ⟨s, rfl, ht, hB2⟩
  have hBb := hBa.trans (hB2.mono hza)
  go_wp2_with fail
  refine (HCL.out _ _ ht).mono ?_
  rintro e w3 ⟨rfl, m3, rfl⟩
  go_wp2_with fail
  go_ret
  exact ⟨by first | rfl | simp, below_drewN hBb _⟩

end Go.Proofs.YtlpnbkfcbamnbaaDoor
