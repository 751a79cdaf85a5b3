/- Walks: bits of words by the reference, Need, and what a row and a builder of bits tell. -/
import Derived.Test.YtdhokioiloggeaaDoorWordA
import Derived.Test.YtdhokioiloggeaaDoorMem
import Derived.Test.YtdhokioiloggeaaDoorMath3
import Derived.Test.YtdhokioiloggeaaDoorShelf
set_option linter.unusedVariables false
set_option linter.unusedSimpArgs false
namespace Go.Proofs.YtdhokioiloggeaaDoor
open Go.RowKit L

set_option maxHeartbeats 400000 in
theorem rbit_any (x : Nat) (i : Int) (w : World) (hx : x < 18446744073709551616) :
    Calls Tryd.prog 41 #[.int .u64 (x : Int), .int .i64 i] w fun e w' => e = .returned (.bool (ibit x i)) ∧ w = w' := by
  rcases Int.lt_or_le i 0 with h | h
  · have e : ibit x i = false := by unfold ibit; simp; omega
    rw [e]
    go_enter Tryd.func41, Tryd.ntmps41
    go_wp2
    go_ret
    exact ⟨rfl, rfl⟩
  · rcases Int.lt_or_le i 64 with h2 | h2
    · have H := hid (bit_and1 x i hx h h2)
      go_enter Tryd.func41, Tryd.ntmps41
      go_wp2
      go_ret
      exact ⟨ret_bool' H.out, rfl⟩
    · have e : ibit x i = false := by unfold ibit; simp; omega
      rw [e]
      go_enter Tryd.func41, Tryd.ntmps41
      go_wp2
      go_ret
      exact ⟨rfl, rfl⟩

set_option maxHeartbeats 400000 in
theorem wneed_any (x : Nat) (w : World) (hx : x < 18446744073709551616) :
    Calls Tryd.prog 26 #[.int .u64 (x : Int)] w fun e w' => e = .returned (.int .i64 (need x : Nat)) ∧ w = w' := by
  go_enter Tryd.func26, Tryd.ntmps26
  go_wp2_with (go_at_call 45; refine (Tryd.bits_Len64 _ _ (by omega) (by omega)).mono ?_; rintro e w' ⟨rfl, rfl⟩)
  go_ret
  exact ⟨rfl, rfl⟩

set_option maxHeartbeats 400000 in
theorem rneed_any (x : Nat) (w : World) (hx : x < 18446744073709551616) :
    Calls Tryd.prog 27 #[.int .u64 (x : Int)] w fun e w' => e = .returned (.int .i64 (need x : Nat)) ∧ w = w' := by
  go_enter Tryd.func27, Tryd.ntmps27
  go_wp2_with fail
  go_loop [3, 4] (fun n i => ∃ k : Nat, k ≤ 64 ∧ i = .int .i64 k ∧ n = .int .i64 (needTo x k : Nat)) (fun _ i => 64 - (intOf i).toNat)
  case atStart => exact ⟨0, by omega, rfl, rfl⟩
  case round =>
    obtain ⟨k, hk, rfl, rfl⟩ := hrel
    rcases Nat.lt_or_ge k 64 with hlt | hge
    · have hs := hid (needTo_succ x k hlt)
      cases hb : ibit x k
      · have hs' := hid (show needTo x (k + 1) = needTo x k by rw [hs.out, hb]; rfl)
        go_wp2_with (go_at_call 41; refine (rbit_any _ _ _ hx).mono ?_; rintro e w' ⟨rfl, rfl⟩)
        go_round
        case rel => exact ⟨k + 1, by omega, by go_num, by rw [hs'.out]⟩
        case measure => simp [intOf]; omega
      · have hs' := hid (show needTo x (k + 1) = k + 1 by rw [hs.out, hb]; rfl)
        go_wp2_with (go_at_call 41; refine (rbit_any _ _ _ hx).mono ?_; rintro e w' ⟨rfl, rfl⟩)
        go_round
        case rel => exact ⟨k + 1, by omega, by go_num, by rw [hs'.out]; go_num⟩
        case measure => simp [intOf]; omega
    · obtain rfl : k = 64 := by omega
      go_wp2_with fail
      go_ret
      exact ⟨ret_int' (by rw [needTo_all x hx]), rfl⟩

end Go.Proofs.YtdhokioiloggeaaDoor
