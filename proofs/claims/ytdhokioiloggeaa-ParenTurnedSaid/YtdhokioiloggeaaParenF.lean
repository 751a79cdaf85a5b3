/- Walks: balanced rows. -/
import Derived.Test.YtdhokioiloggeaaParenE
set_option linter.unusedVariables false
set_option linter.unusedSimpArgs false
set_option maxRecDepth 100000
namespace Go.Proofs.Ytdhokioiloggeaa
open Go.RowKit L

theorem bal_eq (bs : List Bool) : bal (bitAt bs) bs.length = (decide (ex (sh (bitAt bs) 0) bs.length = 0) && decide (0 ≤ lo (sh (bitAt bs) 0) bs.length)) := by
  have h0 : sh (bitAt bs) 0 = bitAt bs := by funext i; show bitAt bs (0 + i) = _; rw [Nat.zero_add]
  rw [h0]; rfl

set_option maxHeartbeats 1000000 in
theorem pBalanced_any (g : Nat) (A : Option Addr) (c : Nat) (bs : List Bool) (w : World) (hr : RowAt w g A c bs) :
    Calls Try.prog 53 #[.pointer (some ⟨g, 0, none⟩)] w fun e w' => e = .returned (.bool (bal (bitAt bs) bs.length)) ∧ ∃ m, w' = w.drewN m := by
  have hcl := hr.cells.2
  have hsm := hr.small
  have HB := hid (bal_eq bs)
  have h0 : held bs.length 0 = 0 := by unfold held; omega
  have h1 : heldTo bs.length 0 (bs.length : Nat) = bs.length := by unfold heldTo held; omega
  have HX := hid (fun W hW => by have := pExcess_any g A c bs 0 (bs.length : Nat) W hW; rw [h0, h1, Nat.sub_zero] at this; exact this)
  have HR := hid (fun W hW => by have := pReach_any g A c bs 0 (bs.length : Nat) W hW; rw [h0, h1, Nat.sub_zero] at this; exact this)
  have hlo := lo_bound (sh (bitAt bs) 0) bs.length
  clear h0 h1
  have hge := ge_fl (lo (sh (bitAt bs) 0) bs.length) 0 (small_of (by omega) (by omega)) (small_of (by omega) (by omega))
  rw [fl_zero] at hge
  generalize lo (sh (bitAt bs) 0) bs.length = l at *
  by_cases he : ex (sh (bitAt bs) 0) bs.length = 0
  · have hb : (ex (sh (bitAt bs) 0) bs.length == 0) = true := by rw [beq_iff_eq]; exact he
    have HV := hid (show bal (bitAt bs) bs.length = decide (0 ≤ l) by rw [HB.out, decide_eq_true he, Bool.true_and])
    generalize ex (sh (bitAt bs) 0) bs.length = z at *
    clear he
    go_enter Try.func53, Try.ntmps53
    go_wp2_with (first
      | (go_at_call 37; refine (rlen_any g _ _ (by exact hcl)).mono ?_; rintro e w' ⟨rfl, rfl⟩)
      | (go_at_call 50; refine (HX.out _ hr).mono ?_; rintro e w' ⟨rfl, m, rfl⟩)
      | (go_at_call 49; refine (HR.out _ (by exact hr)).mono ?_; rintro e w' ⟨rfl, m2, rfl⟩))
    go_ret
    exact ⟨by rw [HV.out]; rfl, _, rfl⟩
  · have hb : (ex (sh (bitAt bs) 0) bs.length == 0) = false := by rw [beq_eq_false_iff_ne]; exact he
    have HV := hid (show bal (bitAt bs) bs.length = false by rw [HB.out, decide_eq_false he, Bool.false_and])
    generalize ex (sh (bitAt bs) 0) bs.length = z at *
    clear he
    go_enter Try.func53, Try.ntmps53
    go_wp2_with (first
      | (go_at_call 37; refine (rlen_any g _ _ (by exact hcl)).mono ?_; rintro e w' ⟨rfl, rfl⟩)
      | (go_at_call 50; refine (HX.out _ hr).mono ?_; rintro e w' ⟨rfl, m, rfl⟩)
      | (go_at_call 49; refine (HR.out _ (by exact hr)).mono ?_; rintro e w' ⟨rfl, m2, rfl⟩))
    go_ret
    exact ⟨by rw [HV.out]; rfl, _, rfl⟩

end Go.Proofs.Ytdhokioiloggeaa
