/- Walks of layer 1 (package word) and of math/bits.OnesCount64: what each call returns; the world stays. -/
import Derived.Test.YtlpnbkfcbamnbaaDoorRows
import Derived.Test.YtlpnbkfcbamnbaaDoorMath1
import Derived.Test.YtlpnbkfcbamnbaaDoorMath2
import Derived.Test.YtlpnbkfcbamnbaaDoorSup
import Derived.WalkKit
import Derived.WalkSpells
import Derived.WalkLawsBesides

set_option linter.unusedVariables false
set_option linter.unusedSimpArgs false
namespace Go.Proofs.YtlpnbkfcbamnbaaDoor
open Go.RowKit L


set_option maxHeartbeats 400000 in
theorem first_any (n : Int) (w : World) :
    Calls Tryd.prog 155 #[.int .i64 n] w fun e w' => e = .returned (.int .i64 (clampN n : Nat)) ∧ w = w' := by
  go_enter Tryd.func155, Tryd.ntmps155
  go_wp2
  all_goals
    go_ret
    exact ⟨ret_int' (by unfold clampN; first | omega | (split at * <;> omega)), rfl⟩

set_option maxHeartbeats 400000 in
theorem ones64_any (x : Nat) (w : World) (hx : x < 18446744073709551616) :
    Calls Tryd.prog 141 #[.int .u64 (x : Int)] w fun e w' => e = .returned (.int .i64 (onesTo x 64 : Nat)) ∧ w = w' := by
  obtain ⟨p1, p2, p3, p4⟩ := pop_main x hx
  have q1 : IntKind.u64.wrap (bits BinOp.and IntKind.u64 ((x : Int) / 2) 6148914691236517205 + bits BinOp.and IntKind.u64 (x : Int) 6148914691236517205) = ((pop1 x : Nat) : Int) := wrap_and_sum x 2 6148914691236517205 hx (by omega) p1
  have q2 : IntKind.u64.wrap (bits BinOp.and IntKind.u64 ((pop1 x : Nat) / 4 : Int) 3689348814741910323 + bits BinOp.and IntKind.u64 (pop1 x : Nat) 3689348814741910323) = ((pop2 (pop1 x) : Nat) : Int) := wrap_and_sum (pop1 x) 4 3689348814741910323 p1 (by omega) (by unfold pop2 at p2; omega)
  have q3 : bits BinOp.and IntKind.u64 (((pop2 (pop1 x) : Nat) : Int) / 16 + (pop2 (pop1 x) : Nat)) 1085102592571150095 = ((pop3 (pop2 (pop1 x)) : Nat) : Int) := by
    have e : (((pop2 (pop1 x) : Nat) : Int) / 16 + (pop2 (pop1 x) : Nat)) = (((pop2 (pop1 x)) / 16 + pop2 (pop1 x) : Nat) : Int) := by omega
    rw [e]; exact u64_and_nat _ 1085102592571150095 (by omega) (by omega)
  have Q1 := L.hid q1
  generalize pop1 x = y1 at *
  generalize pop2 y1 = y2 at *
  generalize pop3 y2 = y3 at *
  clear q1 p1
  have p4' : ((y3 + y3 / 256 + (y3 + y3 / 256) / 65536) + (y3 + y3 / 256 + (y3 + y3 / 256) / 65536) / 4294967296) % 128 = onesTo x 64 := p4
  have P4 := L.hid p4'
  clear p4 p4'
  have b1 : y3 + y3 / 256 < 4629771061636907072 := by omega
  have b2 : y3 + y3 / 256 + (y3 + y3 / 256) / 65536 < 4630000000000000000 := by omega
  have b3 : (y3 + y3 / 256 + (y3 + y3 / 256) / 65536) + (y3 + y3 / 256 + (y3 + y3 / 256) / 65536) / 4294967296 < 4640000000000000000 := by omega
  have q1 := Q1.out
  go_enter Tryd.func141, Tryd.ntmps141
  go_wp2
  go_ret
  refine ⟨ret_int' ?_, rfl⟩
  rw [← P4.out]
  have e := u_and127 _ (show y3 + y3 / 256 + (y3 + y3 / 256) / 65536 + (y3 + y3 / 256 + (y3 + y3 / 256) / 65536) / 4294967296 < 9223372036854775808 by omega)
  exact e

set_option maxHeartbeats 400000 in
theorem mask_any (k : Int) (w : World) (hk : 0 ≤ k) :
    Calls Tryd.prog 132 #[.int .i64 k] w fun e w' => e = .returned (.int .u64 ((2 ^ clampN k - 1 : Nat) : Int)) ∧ w = w' := by
  rcases Int.lt_or_le k 64 with h | h
  · go_enter Tryd.func132, Tryd.ntmps132
    go_wp2
    go_ret
    exact ⟨ret_int' (mask_lo k hk h), rfl⟩
  · go_enter Tryd.func132, Tryd.ntmps132
    go_wp2
    go_ret
    exact ⟨ret_int' (mask_hi k h), rfl⟩

set_option maxHeartbeats 400000 in
theorem ones_any (x : Nat) (n : Int) (w : World) (hx : x < 18446744073709551616) :
    Calls Tryd.prog 138 #[.int .u64 (x : Int), .int .i64 n] w fun e w' => e = .returned (.int .i64 (onesTo x (clampN n) : Nat)) ∧ w = w' := by
  have H := hid (ones_and x n hx)
  go_enter Tryd.func138, Tryd.ntmps138
  go_wp2_with (first
    | (go_at_call 155; refine (first_any _ _).mono ?_; rintro e w' ⟨rfl, rfl⟩)
    | (go_at_call 132; refine (mask_any _ _ (by omega)).mono ?_; rintro e w' ⟨rfl, rfl⟩)
    | (go_at_call 141; rw [H.out.1]; refine (ones64_any _ _ H.out.2.1).mono ?_; rintro e w' ⟨rfl, rfl⟩))
  go_ret
  exact ⟨ret_int' (by rw [H.out.2.2]), rfl⟩

set_option maxHeartbeats 400000 in
theorem field_any (x : Nat) (p n : Int) (w : World) (hx : x < 18446744073709551616) :
    Calls Tryd.prog 102 #[.int .u64 (x : Int), .int .i64 p, .int .i64 n] w fun e w' => e = .returned (.int .u64 (fieldN x p n : Nat)) ∧ ∃ m, w' = w.drewN m := by
  by_cases h1 : n < 1 ∨ 64 ≤ p ∨ p ≤ -64
  · have e : fieldN x p n = 0 := by unfold fieldN; rw [if_pos h1]
    rw [e]
    rcases Int.lt_or_le n 1 with a1 | a1
    · go_enter Tryd.func102, Tryd.ntmps102
      go_wp2
      go_ret
      exact ⟨rfl, drew_some _⟩
    · rcases Int.lt_or_le p 64 with a2 | a2
      · go_enter Tryd.func102, Tryd.ntmps102
        go_wp2
        go_ret
        exact ⟨rfl, drew_some _⟩
      · go_enter Tryd.func102, Tryd.ntmps102
        go_wp2
        go_ret
        exact ⟨rfl, drew_some _⟩
  · rcases Int.lt_or_le p 0 with a2 | a2
    · have H := hid (field_neg x p n hx h1 a2)
      have b1 : 1 ≤ n := by omega
      have b2 : -64 < p := by omega
      clear h1
      go_enter Tryd.func102, Tryd.ntmps102
      go_wp2
      go_quiet ((go_at_call 132; exact quiet_left (mask_any _ _ (by omega))))
      go_wp2
      go_ret
      exact ⟨ret_int' H.out, _, rfl⟩
    · have H := hid (field_pos x p n hx h1 a2)
      have b1 : 1 ≤ n := by omega
      have b2 : p < 64 := by omega
      clear h1
      go_enter Tryd.func102, Tryd.ntmps102
      go_wp2
      go_quiet ((go_at_call 132; exact quiet_left (mask_any _ _ (by omega))))
      go_wp2
      go_ret
      exact ⟨ret_int' H.out, _, rfl⟩

end Go.Proofs.YtlpnbkfcbamnbaaDoor
