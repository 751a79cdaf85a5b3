/- Walks: the laws WordFields, WordReach, WordFinds, WordCounts return true. -/
import Derived.Test.YtdhokioiloggeaaDoorWordD
set_option linter.unusedVariables false
set_option linter.unusedSimpArgs false
set_option maxRecDepth 100000
namespace Go.Proofs.YtdhokioiloggeaaDoor
open Go.RowKit L

theorem below_self (w : World) (n : Nat) : Below w.heap.size w (w.drewN n) := below_drewN (Below.refl _ _) n
theorem small_word {n : Int} (h1 : -9000000000000000 ≤ n) (h2 : n ≤ 9000000000000000) : Small n := by unfold Small; omega
theorem eq_fl_refl (a : Int) (ha : Small a) : (FloatKind.f64.format.order (fl a) (fl a) == some .eq) = true := by rw [eq_fl a a ha ha]; simp

set_option maxHeartbeats 1000000 in
theorem awake1 (w : World) (hT : Tab w) : Calls Tryd.prog 13 #[] w fun e w' => e = .returned (.bool true) ∧ w = w' := by
  have HS := hid (fun W hW => show Calls Tryd.prog 24 #[.int .u64 5, .int .i64 1] W fun e w' => e = .returned (.int .i64 2) ∧ W = w' from select_any 5 1 W (by omega) hW)
  have HE := hid (fun W => show Calls Tryd.prog 18 #[.int .u64 7, .int .i64 3] W fun e w' => e = .returned (.int .i64 3) ∧ W = w' from excess_any 7 3 W (by omega))
  go_enter Tryd.func13, Tryd.ntmps13
  go_wp2_with (first
    | (go_at_call 24; refine (HS.out _ hT).mono ?_; rintro e w' ⟨rfl, rfl⟩)
    | (go_at_call 18; refine (HE.out _).mono ?_; rintro e w' ⟨rfl, rfl⟩))
  go_ret
  exact ⟨rfl, rfl⟩

set_option maxHeartbeats 1000000 in
theorem lawWordFields_any (x : Nat) (p n : Int) (w : World) (hx : x < 18446744073709551616) (hT : Tab w) :
    Calls Tryd.prog 3 #[.int .u64 (x : Int), .int .i64 p, .int .i64 n] w fun e w' => e = .returned (.bool true) ∧ Below w.heap.size w w' := by
  have HA := hid (fun W hW => awake1 W hW)
  have HF := hid (fun W => field_any x p n W hx)
  have HR := hid (fun W => refField01_any x p n W hx)
  generalize fieldN x p n = v at *
  go_enter Tryd.func3, Tryd.ntmps3
  go_wp2_with fail
  refine (HA.out _ hT).mono ?_
  rintro e w' ⟨rfl, rfl⟩
  go_wp2_with fail
  refine (HF.out _).mono ?_
  rintro e w' ⟨rfl, m, rfl⟩
  go_wp2_with fail
  refine (HR.out _).mono ?_
  rintro e w' ⟨rfl, rfl⟩
  go_wp2
  go_ret
  exact ⟨rfl, below_self _ _⟩

set_option maxHeartbeats 1000000 in
theorem lawWordFinds_any (x : Nat) (n d : Int) (w : World) (hx : x < 18446744073709551616) (hT : Tab w) :
    Calls Tryd.prog 5 #[.int .u64 (x : Int), .int .i64 n, .int .i64 d] w fun e w' => e = .returned (.bool true) ∧ Below w.heap.size w w' := by
  have HA := hid (fun W hW => awake1 W hW)
  have HF := hid (fun W => find_any x n d W hx)
  have HR := hid (fun W => refFind01_any x n d W hx)
  generalize fnd x.testBit d (clampN n) = v at *
  go_enter Tryd.func5, Tryd.ntmps5
  go_wp2_with fail
  refine (HA.out _ hT).mono ?_
  rintro e w' ⟨rfl, rfl⟩
  go_wp2_with fail
  refine (HF.out _).mono ?_
  rintro e w' ⟨rfl, rfl⟩
  go_wp2_with fail
  refine (HR.out _).mono ?_
  rintro e w' ⟨rfl, rfl⟩
  go_wp2
  go_ret
  exact ⟨rfl, Below.refl _ _⟩

set_option maxHeartbeats 1000000 in
theorem lawWordReach_any (x : Nat) (n : Int) (w : World) (hx : x < 18446744073709551616) (hT : Tab w) :
    Calls Tryd.prog 4 #[.int .u64 (x : Int), .int .i64 n] w fun e w' => e = .returned (.bool true) ∧ Below w.heap.size w w' := by
  have hc := clampN_le n
  have k2 := lo_bound x.testBit (clampN n)
  have k3 := hi_bound x.testBit (clampN n)
  have hf1 := eq_fl_refl (lo x.testBit (clampN n)) (small_word (by omega) (by omega))
  have hf2 := eq_fl_refl (hi x.testBit (clampN n)) (small_word (by omega) (by omega))
  have HA := hid (fun W hW => awake1 W hW)
  have HR := hid (fun W => refReach01_any x n W hx)
  have HP := hid (fun W => reach_any x n W hx)
  have HX := hid (fun W => excess_any x n W hx)
  have HY := hid (fun W => refEx01_any x n W hx)
  generalize lo x.testBit (clampN n) = lo0 at *
  generalize hi x.testBit (clampN n) = hi0 at *
  generalize ex x.testBit (clampN n) = ex0 at *
  have hfl : ∀ z, floatOfInt .f64 z = fl z := fun _ => rfl
  go_enter Tryd.func4, Tryd.ntmps4
  go_wp2_with fail
  refine (HA.out _ hT).mono ?_
  rintro e w' ⟨rfl, rfl⟩
  go_wp2_with fail
  refine (HR.out _).mono ?_
  rintro e w' ⟨rfl, rfl⟩
  go_wp2_with fail
  refine (HP.out _).mono ?_
  rintro e w' ⟨rfl, rfl⟩
  go_wp2_with fail
  refine (HX.out _).mono ?_
  rintro e w' ⟨rfl, rfl⟩
  go_wp2_with fail
  refine (HY.out _).mono ?_
  rintro e w' ⟨rfl, rfl⟩
  go_wp2
  go_ret
  exact ⟨rfl, Below.refl _ _⟩

set_option maxHeartbeats 1000000 in
theorem lawWordCounts_any (x : Nat) (n k : Int) (w : World) (hx : x < 18446744073709551616) (hT : Tab w) :
    Calls Tryd.prog 6 #[.int .u64 (x : Int), .int .i64 n, .int .i64 k] w fun e w' => e = .returned (.bool true) ∧ Below w.heap.size w w' := by
  have HA := hid (fun W hW => awake1 W hW)
  have H1 := hid (fun W => ones_any x n W hx)
  have H2 := hid (fun W => refOnes_any x n W hx)
  have H3 := hid (fun W hW => select_any x k W hx hW)
  have H4 := hid (fun W => refSelect_any x k W hx)
  have H5 := hid (fun W => wneed_any x W hx)
  have H6 := hid (fun W => rneed_any x W hx)
  generalize onesTo x (clampN n) = o at *
  generalize selN x k = s at *
  generalize need x = q at *
  go_enter Tryd.func6, Tryd.ntmps6
  go_wp2_with fail
  refine (HA.out _ hT).mono ?_
  rintro e w' ⟨rfl, rfl⟩
  go_wp2_with fail
  refine (H1.out _).mono ?_
  rintro e w' ⟨rfl, rfl⟩
  go_wp2_with fail
  refine (H2.out _).mono ?_
  rintro e w' ⟨rfl, rfl⟩
  go_wp2_with fail
  refine (H3.out _ hT).mono ?_
  rintro e w' ⟨rfl, rfl⟩
  go_wp2_with fail
  refine (H4.out _).mono ?_
  rintro e w' ⟨rfl, rfl⟩
  go_wp2_with fail
  refine (H5.out _).mono ?_
  rintro e w' ⟨rfl, rfl⟩
  go_wp2_with fail
  refine (H6.out _).mono ?_
  rintro e w' ⟨rfl, rfl⟩
  go_wp2
  go_ret
  exact ⟨rfl, Below.refl _ _⟩

end Go.Proofs.YtdhokioiloggeaaDoor
