/- Walks: words turned round; where a beginning, and an end, has an excess. -/
import Derived.Test.YtdhokioiloggeaaParenB
import Derived.Test.YtdhokioiloggeaaMath9
set_option linter.unusedVariables false
set_option linter.unusedSimpArgs false
set_option maxRecDepth 100000
namespace Go.Proofs.Ytdhokioiloggeaa
open Go.RowKit L

theorem swp_wrap (x : Nat) (k M : Nat) (hx : x < 18446744073709551616) (hM : M < 18446744073709551616) :
    bits BinOp.or IntKind.u64 (bits BinOp.and IntKind.u64 ((x / 2 ^ k : Nat) : Int) (M : Nat)) (IntKind.u64.wrap (bits BinOp.and IntKind.u64 (x : Int) (M : Nat) * 2 ^ k)) = ((swp k M x : Nat) : Int) := by
  rw [u64_and_nat _ _ (Nat.lt_of_le_of_lt (Nat.div_le_self _ _) hx) hM, u64_and_nat _ _ hx hM, or_shl _ _ _ (Nat.lt_of_le_of_lt Nat.and_le_right hM)]
  rfl
theorem swp_wrap32 (x : Nat) (hx : x < 18446744073709551616) :
    bits BinOp.or IntKind.u64 ((x : Int) / 4294967296) (IntKind.u64.wrap ((x : Int) * 4294967296)) = ((swp 32 m32 x : Nat) : Int) := by
  have h := or_shl (x / 4294967296) x 32 (Nat.lt_of_le_of_lt (Nat.div_le_self _ _) hx)
  rw [show ((2 : Int) ^ 32) = 4294967296 from rfl, show ((2 : Nat) ^ 32) = 4294967296 from rfl] at h
  rw [swp32 x hx, ← h]; rfl

set_option maxHeartbeats 400000 in
theorem revBytes_any (x : Nat) (w : World) (hx : x < 18446744073709551616) :
    Calls Try.prog 87 #[.int .u64 (x : Int)] w fun e w' => e = .returned (.int .u64 (swp 32 m32 (swp 16 m16 (swp 8 m8 x)) : Nat)) ∧ w = w' := by
  have q1 : bits BinOp.or IntKind.u64 (bits BinOp.and IntKind.u64 ((x : Int) / 256) 71777214294589695) (IntKind.u64.wrap (bits BinOp.and IntKind.u64 (x : Int) 71777214294589695 * 256)) = ((swp 8 m8 x : Nat) : Int) := swp_wrap x 8 m8 hx (by decide)
  have B1 := swp_lt 8 m8 x (by decide)
  generalize swp 8 m8 x = y at *
  have q2 : bits BinOp.or IntKind.u64 (bits BinOp.and IntKind.u64 ((y : Int) / 65536) 281470681808895) (IntKind.u64.wrap (bits BinOp.and IntKind.u64 (y : Int) 281470681808895 * 65536)) = ((swp 16 m16 y : Nat) : Int) := swp_wrap y 16 m16 B1 (by decide)
  have B2 := swp_lt 16 m16 y (by decide)
  generalize swp 16 m16 y = z at *
  have H3 := hid (swp_wrap32 z B2)
  go_enter Try.func87, Try.ntmps87
  go_wp2
  go_ret
  exact ⟨by rw [← H3.out]; rfl, rfl⟩

set_option maxHeartbeats 400000 in
theorem rev_any (x : Nat) (w : World) (hx : x < 18446744073709551616) :
    Calls Try.prog 85 #[.int .u64 (x : Int)] w fun e w' => e = .returned (.int .u64 (rev64 x : Nat)) ∧ w = w' := by
  have HR := hid (show rev64 x = swp 32 m32 (swp 16 m16 (swp 8 m8 (swp 4 m4 (swp 2 m2 (swp 1 m1 x))))) from rfl)
  have q1 : bits BinOp.or IntKind.u64 (bits BinOp.and IntKind.u64 ((x : Int) / 2) 6148914691236517205) (IntKind.u64.wrap (bits BinOp.and IntKind.u64 (x : Int) 6148914691236517205 * 2)) = ((swp 1 m1 x : Nat) : Int) := swp_wrap x 1 m1 hx (by decide)
  have B1 := swp_lt 1 m1 x (by decide)
  generalize swp 1 m1 x = y at *
  have q2 : bits BinOp.or IntKind.u64 (bits BinOp.and IntKind.u64 ((y : Int) / 4) 3689348814741910323) (IntKind.u64.wrap (bits BinOp.and IntKind.u64 (y : Int) 3689348814741910323 * 4)) = ((swp 2 m2 y : Nat) : Int) := swp_wrap y 2 m2 B1 (by decide)
  have B2 := swp_lt 2 m2 y (by decide)
  generalize swp 2 m2 y = z at *
  have q3 : bits BinOp.or IntKind.u64 (bits BinOp.and IntKind.u64 ((z : Int) / 16) 1085102592571150095) (IntKind.u64.wrap (bits BinOp.and IntKind.u64 (z : Int) 1085102592571150095 * 16)) = ((swp 4 m4 z : Nat) : Int) := swp_wrap z 4 m4 B2 (by decide)
  have B3 := swp_lt 4 m4 z (by decide)
  generalize swp 4 m4 z = u at *
  go_enter Try.func85, Try.ntmps85
  go_wp2_with (go_at_call 87; refine (revBytes_any _ _ B3).mono ?_; rintro e w' ⟨rfl, rfl⟩)
  go_ret
  exact ⟨by rw [HR.out]; rfl, rfl⟩

set_option maxHeartbeats 400000 in
theorem pturned_any (x n : Nat) (w : World) (hx : x < 18446744073709551616) (hn : n ≤ 64) :
    Calls Try.prog 79 #[.int .u64 (x : Int), .int .i64 (n : Nat)] w fun e w' => e = .returned (.int .u64 (fieldN (rev64 x) (64 - (n : Int)) (n : Int) : Nat)) ∧ ∃ m, w' = w.drewN m := by
  have hr := rev64_lt x
  have HA := hid (fun W => rev_any x W hx)
  generalize rev64 x = y at *
  go_enter Try.func79, Try.ntmps79
  go_wp2_with (first
    | (go_at_call 85; refine (HA.out _).mono ?_; rintro e w' ⟨rfl, rfl⟩)
    | (go_at_call 70; refine (field_any _ _ _ _ hr).mono ?_; rintro e w' ⟨rfl, m, rfl⟩))

  go_ret
  exact ⟨rfl, m, rfl⟩

end Go.Proofs.Ytdhokioiloggeaa
