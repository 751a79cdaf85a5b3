/- Walks: the states of UTF-8. -/
import Derived.Test.YtacllonekidocaaDoorRows
import Derived.Test.YtacllonekidocaaDoorBase

import Derived.Test.YtacllonekidocaaDoorMaths
import Derived.Test.YtacllonekidocaaDoorAuto
import Derived.WalkKit
import Derived.WalkSpells
import Derived.WalkLawsBesides
set_option linter.unusedVariables false
set_option linter.unusedSimpArgs false
set_option maxRecDepth 100000
namespace Go.Proofs.YtacllonekidocaaDoor
open Go.RowKit L

set_option maxHeartbeats 1000000 in
theorem ufirst_any (b : Nat) (w : World) (hb : b < 256) :
    Calls Tryd.prog 89 #[.int .u8 (b : Nat)] w fun e w' => e = .returned (.int .i64 (ufirst b : Nat)) ∧ w = w' := by
  go_enter Tryd.func89, Tryd.ntmps89
  go_wp2
  all_goals
    go_ret
    exact ⟨ret_int' (by (try simp only [beq_iff_eq, beq_eq_false_iff_ne, ne_eq, Bool.not_eq_true] at *); unfold ufirst; (repeat' split) <;> omega), rfl⟩

set_option maxHeartbeats 4000000 in
theorem ustep_any (u b : Nat) (w : World) (hb : b < 256) (hu : u ≤ 7) :
    Calls Tryd.prog 74 #[.int .i64 (u : Nat), .int .u8 (b : Nat)] w fun e w' => e = .returned (.int .i64 (ustep u b : Nat)) ∧ w = w' := by
  have HF := hid (fun W => ufirst_any b W hb)
  rcases Nat.eq_zero_or_pos u with h0 | h0
  · subst h0
    have HR := hid (show ustep 0 b = ufirst b by unfold ustep; rw [if_pos rfl])
    generalize ufirst b = f at *
    go_enter Tryd.func74, Tryd.ntmps74
    go_wp2_with fail
    refine (HF.out _).mono ?_
    rintro e w' ⟨rfl, rfl⟩
    go_wp2
    go_ret
    exact ⟨by rw [HR.out]; rfl, rfl⟩
  · clear HF
    have hcase : u = 1 ∨ u = 2 ∨ u = 3 ∨ u = 4 ∨ u = 5 ∨ u = 6 ∨ u = 7 := by omega
    rcases hcase with rfl | rfl | rfl | rfl | rfl | rfl | rfl
    all_goals
      clear h0 hu
      go_enter Tryd.func74, Tryd.ntmps74
      go_wp2
      all_goals
        go_ret
        exact ⟨ret_int' (by (try simp only [beq_iff_eq, beq_eq_false_iff_ne, ne_eq, Bool.not_eq_true] at *); unfold ustep ulow uhigh unext; simp only [Nat.reduceEqDiff, if_true, if_false, reduceIte, or_true, true_or, or_false, false_or, Nat.reduceSub]; (repeat' split) <;> omega), rfl⟩

end Go.Proofs.YtacllonekidocaaDoor
