/- Walks: the reference of layer 1. -/
import Derived.Test.YtdhokioiloggeaaDoorWordC
import Derived.Test.YtdhokioiloggeaaDoorBitsA
import Derived.Test.YtdhokioiloggeaaDoorMath11
set_option linter.unusedVariables false
set_option linter.unusedSimpArgs false
set_option maxRecDepth 100000
namespace Go.Proofs.YtdhokioiloggeaaDoor
open Go.RowKit L

/-- The two tests of a loop over first bits. -/
theorem clamp_go {n : Int} {k : Nat} (h : k < clampN n) : (k : Int) < n ∧ (k : Int) < 64 := by unfold clampN at h; omega
theorem clamp_end {n : Int} {k : Nat} (h : k = clampN n) : ¬ (k : Int) < n ∨ ((k : Int) < n ∧ k = 64) := by unfold clampN at h; omega

theorem or_pow01 (a i : Nat) (ha : a < 18446744073709551616) (hi : i < 64) : bits BinOp.or IntKind.u64 (a : Int) (IntKind.u64.wrap (2 ^ i)) = ((a ||| 2 ^ i : Nat) : Int) := by
  have h := pow_lt64 hi
  have e : IntKind.u64.wrap (2 ^ i) = ((2 ^ i : Nat) : Int) := by
    rw [IntKind.wrap_u64, show ((2 : Int) ^ i) = ((2 ^ i : Nat) : Int) from by simp]
    generalize (2 : Nat) ^ i = q at h ⊢
    omega
  rw [e]; exact u64_or_nat _ _ ha h

set_option maxHeartbeats 1000000 in
theorem refOnes_any (x : Nat) (n : Int) (w : World) (hx : x < 18446744073709551616) :
    Calls Tryd.prog 23 #[.int .u64 (x : Int), .int .i64 n] w fun e w' => e = .returned (.int .i64 (onesTo x (clampN n) : Nat)) ∧ w = w' := by
  have hc64 := clampN_le n
  go_enter Tryd.func23, Tryd.ntmps23
  go_wp2_with fail
  go_loop [5, 6] (fun c i => ∃ k : Nat, k ≤ clampN n ∧ i = .int .i64 k ∧ c = .int .i64 (onesTo x k : Nat)) (fun _ i => 64 - (intOf i).toNat)
  case atStart => exact ⟨0, by omega, rfl, rfl⟩
  case round =>
    obtain ⟨k, hk, rfl, rfl⟩ := hrel
    have ho := onesTo_le x k
    rcases Nat.lt_or_ge k (clampN n) with hlt | hge
    · obtain ⟨h1, h2⟩ := clamp_go hlt
      have HB := hid (ibit_nat x k (by omega))
      have HS := hid (show onesTo x (k + 1) = onesTo x k + (x.testBit k).toNat from rfl)
      have hk64 : k < 64 := by omega
      cases hb : x.testBit k
      all_goals
        rw [hb] at HB HS
        clear hb
        go_wp2_with (go_at_call 41; refine (rbit_any _ _ _ hx).mono ?_; rw [HB.out]; rintro e w' ⟨rfl, rfl⟩)
        go_round
        case rel => exact ⟨k + 1, by omega, by go_num, by rw [HS.out]; first | rfl | go_num⟩
        case measure => simp [intOf]; omega
    · have hkc : k = clampN n := by omega
      rcases clamp_end hkc with h1 | ⟨h1, h2⟩
      · clear hge
        go_wp2
        go_ret
        exact ⟨by rw [← hkc]; rfl, rfl⟩
      · have h3 : ¬ (k : Int) < 64 := by omega
        clear hge h2
        go_wp2
        go_ret
        exact ⟨by rw [← hkc]; rfl, rfl⟩

set_option maxHeartbeats 1000000 in
theorem refEx01_any (x : Nat) (n : Int) (w : World) (hx : x < 18446744073709551616) :
    Calls Tryd.prog 19 #[.int .u64 (x : Int), .int .i64 n] w fun e w' => e = .returned (.int .i64 (ex x.testBit (clampN n))) ∧ w = w' := by
  have hc64 := clampN_le n
  go_enter Tryd.func19, Tryd.ntmps19
  go_wp2_with fail
  go_loop [5, 6] (fun c i => ∃ k : Nat, k ≤ clampN n ∧ i = .int .i64 k ∧ c = .int .i64 (ex x.testBit k)) (fun _ i => 64 - (intOf i).toNat)
  case atStart => exact ⟨0, by omega, rfl, rfl⟩
  case round =>
    obtain ⟨k, hk, rfl, rfl⟩ := hrel
    have ho := ex_abs x.testBit k
    rcases Nat.lt_or_ge k (clampN n) with hlt | hge
    · obtain ⟨h1, h2⟩ := clamp_go hlt
      have HB := hid (ibit_nat x k (by omega))
      have HS := hid (show ex x.testBit (k + 1) = ex x.testBit k + sgn (x.testBit k) from rfl)
      have hk64 : k < 64 := by omega
      cases hb : x.testBit k
      all_goals
        rw [hb] at HB HS
        clear hb
        go_wp2_with (go_at_call 41; refine (rbit_any _ _ _ hx).mono ?_; rw [HB.out]; rintro e w' ⟨rfl, rfl⟩)
        go_round
        case rel => exact ⟨k + 1, by omega, by go_num, by rw [HS.out]; rfl⟩
        case measure => simp [intOf]; omega
    · have hkc : k = clampN n := by omega
      rcases clamp_end hkc with h1 | ⟨h1, h2⟩
      · clear hge
        go_wp2
        go_ret
        exact ⟨by rw [← hkc]; rfl, rfl⟩
      · have h3 : ¬ (k : Int) < 64 := by omega
        clear hge h2
        go_wp2
        go_ret
        exact ⟨by rw [← hkc]; rfl, rfl⟩

set_option maxHeartbeats 1000000 in
theorem refField01_any (x : Nat) (p n : Int) (w : World) (hx : x < 18446744073709551616) :
    Calls Tryd.prog 15 #[.int .u64 (x : Int), .int .i64 p, .int .i64 n] w fun e w' => e = .returned (.int .u64 (fieldN x p n : Nat)) ∧ w = w' := by
  have hc64 := clampN_le n
  have HF := hid (fieldN_eq x p n hx)
  go_enter Tryd.func15, Tryd.ntmps15
  go_wp2_with fail
  go_loop [7, 8] (fun v i => ∃ k : Nat, k ≤ clampN n ∧ i = .int .i64 k ∧ v = .int .u64 (fieldTo x p k : Nat)) (fun _ i => 64 - (intOf i).toNat)
  case atStart => exact ⟨0, by omega, rfl, rfl⟩
  case round =>
    obtain ⟨k, hk, rfl, rfl⟩ := hrel
    rcases Nat.lt_or_ge k (clampN n) with hlt | hge
    · obtain ⟨h1, h2⟩ := clamp_go hlt
      have hk64 : k < 64 := by omega
      have hfl : fieldTo x p k < 18446744073709551616 := Nat.lt_of_lt_of_le (fieldTo_lt x p k) (Nat.pow_le_pow_right (n := 2) (by omega) (show k ≤ 64 by omega))
      have HOR := hid (or_pow01 (fieldTo x p k) k hfl hk64)
      by_cases hp : -64 < p ∧ p < 64
      · obtain ⟨hp1, hp2⟩ := hp
        cases hb : ibit x (p + k)
        · have HB := hid hb
          have HS := hid (show fieldTo x p (k + 1) = fieldTo x p k by simp only [fieldTo]; rw [if_neg]; unfold fbit; rw [hb]; simp)
          clear hb
          go_wp2_with (go_at_call 41; refine (rbit_any _ _ _ hx).mono ?_; rw [HB.out]; rintro e w' ⟨rfl, rfl⟩)
          go_round
          case rel => exact ⟨k + 1, by omega, by go_num, by rw [HS.out]⟩
          case measure => simp [intOf]; omega
        · have HB := hid hb
          have HS := hid (show fieldTo x p (k + 1) = fieldTo x p k ||| 2 ^ k by
            simp only [fieldTo]; rw [if_pos]; unfold fbit; rw [hb, decide_eq_true hp1, decide_eq_true hp2]; rfl)
          clear hb
          go_wp2_with (go_at_call 41; refine (rbit_any _ _ _ hx).mono ?_; rw [HB.out]; rintro e w' ⟨rfl, rfl⟩)
          go_round
          case rel => exact ⟨k + 1, by omega, by go_num, by rw [HS.out, ← HOR.out]⟩
          case measure => simp [intOf]; omega
      · have HS := hid (show fieldTo x p (k + 1) = fieldTo x p k by
          simp only [fieldTo]; rw [if_neg]; unfold fbit
          by_cases hp1 : -64 < p
          · rw [decide_eq_false (show ¬ p < 64 from fun h => hp ⟨hp1, h⟩)]; simp
          · rw [decide_eq_false hp1]; simp)
        by_cases hp1 : -64 < p
        · have hp2 : ¬ p < 64 := fun h => hp ⟨hp1, h⟩
          clear hp
          go_wp2
          go_round
          case rel => exact ⟨k + 1, by omega, by go_num, by rw [HS.out]⟩
          case measure => simp [intOf]; omega
        · clear hp
          go_wp2
          go_round
          case rel => exact ⟨k + 1, by omega, by go_num, by rw [HS.out]⟩
          case measure => simp [intOf]; omega
    · have hkc : k = clampN n := by omega
      rw [← hkc] at HF
      have hcc := clamp_end hkc
      have HFF := hid (show fieldN x p n = fieldTo x p k from HF.out.symm)
      clear hkc hge HF
      by_cases h64 : k < 64
      · have h1 : ¬ (k : Int) < n := by omega
        clear hcc
        go_wp2
        go_ret
        exact ⟨by rw [HFF.out]; rfl, rfl⟩
      · have h3 : ¬ (k : Int) < 64 := by omega
        clear hcc
        go_wp2
        go_ret
        exact ⟨by rw [HFF.out]; rfl, rfl⟩

set_option maxHeartbeats 1000000 in
theorem refSelect_any (x : Nat) (k : Int) (w : World) (hx : x < 18446744073709551616) :
    Calls Tryd.prog 25 #[.int .u64 (x : Int), .int .i64 k] w fun e w' => e = .returned (.int .i64 (selN x k : Nat)) ∧ w = w' := by
  go_enter Tryd.func25, Tryd.ntmps25
  go_wp2_with fail
  go_loop [5] (fun i => ∃ j : Nat, j ≤ 64 ∧ i = .int .i64 j ∧ Hid (selTo x k j = 64)) (fun i => 64 - (intOf i).toNat)
  case atStart => exact ⟨0, by omega, rfl, hid rfl⟩
  case round =>
    obtain ⟨j, hj, rfl, hs⟩ := hrel
    rcases Nat.lt_or_ge j 64 with hlt | hge
    · have hji : (j : Int) < 64 := by omega
      have HB := hid (ibit_nat x j hlt)
      have HO := hid (show ∀ W, Calls Tryd.prog 23 #[.int .u64 (x : Int), .int .i64 (j : Nat)] W fun e w' => e = .returned (.int .i64 (onesTo x j : Nat)) ∧ W = w' from fun W => by
        have := refOnes_any x (j : Nat) W hx
        rw [clampN_nat (by omega)] at this
        exact this)
      have HS := hid (show selTo x k (j + 1) = if x.testBit j ∧ (onesTo x j : Int) = k then j else 64 by
        simp only [selTo]; rw [hs.out, if_neg (show ¬ ((64 : Nat) < 64) by omega)])
      cases hb : x.testBit j
      · have HS2 := hid (show selTo x k (j + 1) = 64 by rw [HS.out, hb, if_neg (by simp)])
        rw [hb] at HB
        clear hb
        go_wp2_with (go_at_call 41; refine (rbit_any _ _ _ hx).mono ?_; rw [HB.out]; rintro e w' ⟨rfl, rfl⟩)
        go_round
        case rel => exact ⟨j + 1, by omega, by go_num, HS2⟩
        case measure => simp [intOf]; omega
      · by_cases hk : (onesTo x j : Int) = k
        · have HR := hid (selN_eq x j k hb hk hlt)
          have hkb : ((onesTo x j : Int) == k) = true := by rw [beq_iff_eq]; exact hk
          rw [hb] at HB
          generalize onesTo x j = o at *
          clear hb hk
          go_wp2_with (first
            | (go_at_call 41; refine (rbit_any _ _ _ hx).mono ?_; rw [HB.out]; rintro e w' ⟨rfl, rfl⟩)
            | (go_at_call 23; refine (HO.out _).mono ?_; rintro e w' ⟨rfl, rfl⟩))
          go_ret
          exact ⟨by rw [HR.out]; rfl, rfl⟩
        · have HS2 := hid (show selTo x k (j + 1) = 64 by rw [HS.out, if_neg (fun h => hk h.2)])
          have hkb : ((onesTo x j : Int) == k) = false := by rw [beq_eq_false_iff_ne]; exact hk
          rw [hb] at HB
          generalize onesTo x j = o at *
          clear hb hk
          go_wp2_with (first
            | (go_at_call 41; refine (rbit_any _ _ _ hx).mono ?_; rw [HB.out]; rintro e w' ⟨rfl, rfl⟩)
            | (go_at_call 23; refine (HO.out _).mono ?_; rintro e w' ⟨rfl, rfl⟩))
          go_round
          case rel => exact ⟨j + 1, by omega, by go_num, HS2⟩
          case measure => simp [intOf]; omega
    · obtain rfl : j = 64 := by omega
      have HR := hid (show selN x k = 64 from hs.out)
      go_wp2
      go_ret
      exact ⟨by rw [HR.out]; rfl, rfl⟩

set_option maxHeartbeats 1000000 in
theorem refFind01_any (x : Nat) (n d : Int) (w : World) (hx : x < 18446744073709551616) :
    Calls Tryd.prog 21 #[.int .u64 (x : Int), .int .i64 n, .int .i64 d] w fun e w' => e = .returned (.int .i64 (fnd x.testBit d (clampN n) : Nat)) ∧ w = w' := by
  have hc64 := clampN_le n
  go_enter Tryd.func21, Tryd.ntmps21
  go_wp2_with fail
  go_loop [7] (fun i => ∃ (j : Nat) (I : Int), j ≤ clampN n ∧ I = (j : Int) + 1 ∧ i = .int .i64 I ∧ Hid (fnd x.testBit d j = 0)) (fun i => 65 - (intOf i).toNat)
  case atStart => exact ⟨0, _, by omega, by omega, rfl, hid rfl⟩
  case round =>
    obtain ⟨j, I, hj, hI, rfl, hs⟩ := hrel
    rcases Nat.lt_or_ge j (clampN n) with hlt | hge
    · obtain ⟨h1, h2⟩ := clamp_go hlt
      have a1 : I ≤ n := by omega
      have a2 : I ≤ 64 := by omega
      have HE := hid (show ∀ W, Calls Tryd.prog 19 #[.int .u64 (x : Int), .int .i64 I] W fun e w' => e = .returned (.int .i64 (ex x.testBit (j + 1))) ∧ W = w' from fun W => by
        have := refEx01_any x I W hx
        rw [hI, show clampN ((j : Int) + 1) = j + 1 from by unfold clampN; omega, ← hI] at this
        exact this)
      have HN := hid (show fnd x.testBit d (j + 1) = if ex x.testBit (j + 1) = d then j + 1 else 0 by
        have e : fnd x.testBit d (j + 1) = if fnd x.testBit d j ≠ 0 then fnd x.testBit d j else if ex x.testBit (j + 1) = d then j + 1 else 0 := rfl
        have hs' := hs.out
        rw [e, if_neg (by omega)])
      have HH := hid (show fnd x.testBit d (j + 1) ≠ 0 → fnd x.testBit d (clampN n) = fnd x.testBit d (j + 1) from fun h => by
        obtain ⟨b, hb⟩ : ∃ b, clampN n = j + 1 + b := ⟨clampN n - (j + 1), by omega⟩
        rw [hb]; exact fnd_keep _ _ _ _ h)
      have HI := hid hI
      have bI : 1 ≤ I := by omega
      clear hI h1 h2
      by_cases he : ex x.testBit (j + 1) = d
      · have hkb : (ex x.testBit (j + 1) == d) = true := by rw [beq_iff_eq]; exact he
        have HR := hid (show fnd x.testBit d (clampN n) = j + 1 by
          have e := HN.out
          rw [if_pos he] at e
          rw [HH.out (by omega), e])
        generalize ex x.testBit (j + 1) = E at *
        clear he
        go_wp2_with (go_at_call 19; refine (HE.out _).mono ?_; rintro e w' ⟨rfl, rfl⟩)
        go_ret
        have hI := HI.out
        exact ⟨by rw [HR.out]; show _ = Ending.returned (.int .i64 ((j + 1 : Nat) : Int)); rw [show ((j + 1 : Nat) : Int) = I from by omega]; rfl, rfl⟩
      · have hkb : (ex x.testBit (j + 1) == d) = false := by rw [beq_eq_false_iff_ne]; exact he
        have HZ := hid (show fnd x.testBit d (j + 1) = 0 by rw [HN.out, if_neg he])
        generalize ex x.testBit (j + 1) = E at *
        clear he
        go_wp2_with (go_at_call 19; refine (HE.out _).mono ?_; rintro e w' ⟨rfl, rfl⟩)
        have hI := HI.out
        go_round
        case rel => exact ⟨j + 1, _, by omega, by omega, rfl, HZ⟩
        case measure => simp [intOf]; omega
    · have hkc : j = clampN n := by omega
      have HR := hid (show fnd x.testBit d (clampN n) = 0 by rw [← hkc]; exact hs.out)
      have hcc := clamp_end hkc
      by_cases h1 : I ≤ n
      · have h3 : ¬ I ≤ 64 := by omega
        clear hcc hge hkc hI
        go_wp2
        go_ret
        exact ⟨by rw [HR.out]; rfl, rfl⟩
      · clear hcc hge hkc hI
        go_wp2
        go_ret
        exact ⟨by rw [HR.out]; rfl, rfl⟩

set_option maxHeartbeats 1000000 in
theorem refReach01_any (x : Nat) (n : Int) (w : World) (hx : x < 18446744073709551616) :
    Calls Tryd.prog 16 #[.int .u64 (x : Int), .int .i64 n] w fun e w' => e = .returned (.tuple #[.int .i64 (lo x.testBit (clampN n)), .int .i64 (hi x.testBit (clampN n))]) ∧ w = w' := by
  have hc64 := clampN_le n
  by_cases hn : n < 1
  · have h0 : clampN n = 0 := by unfold clampN; omega
    rw [h0]
    go_enter Tryd.func16, Tryd.ntmps16
    go_wp2
    go_ret2
    exact ⟨rfl, rfl⟩
  · have hn1 : 1 ≤ n := by omega
    have hc1 : 1 ≤ clampN n := by unfold clampN; omega
    have HL := hid (show lo x.testBit (clampN n) = lo64 x.testBit (clampN n) by unfold lo64; rw [if_neg (by omega)])
    have HM := hid (show hi x.testBit (clampN n) = hi64 x.testBit (clampN n) by unfold hi64; rw [if_neg (by omega)])
    go_enter Tryd.func16, Tryd.ntmps16
    go_wp2_with fail
    go_loop [6, 7, 8] (fun l m i => ∃ (j : Nat) (I : Int), j ≤ clampN n ∧ I = (j : Int) + 1 ∧ i = .int .i64 I ∧ l = .int .i64 (lo64 x.testBit j) ∧ m = .int .i64 (hi64 x.testBit j)) (fun _ _ i => 65 - (intOf i).toNat)
    case atStart => exact ⟨0, _, by omega, by omega, rfl, rfl, rfl⟩
    case round =>
      obtain ⟨j, I, hj, hI, rfl, rfl, rfl⟩ := hrel
      rcases Nat.lt_or_ge j (clampN n) with hlt | hge
      · obtain ⟨h1, h2⟩ := clamp_go hlt
        have a1 : I ≤ n := by omega
        have a2 : I ≤ 64 := by omega
        have HE := hid (show ∀ W, Calls Tryd.prog 19 #[.int .u64 (x : Int), .int .i64 I] W fun e w' => e = .returned (.int .i64 (ex x.testBit (j + 1))) ∧ W = w' from fun W => by
          have := refEx01_any x I W hx
          rw [hI, show clampN ((j : Int) + 1) = j + 1 from by unfold clampN; omega, ← hI] at this
          exact this)
        have HS := hid (lo64_succ x.testBit j (by omega))
        have HT := hid (hi64_succ x.testBit j (by omega))
        have HI := hid hI
        have bI : 1 ≤ I := by omega
        clear hI h1 h2
        generalize ex x.testBit (j + 1) = E at *
        go_wp2_with (go_at_call 19; refine (HE.out _).mono ?_; rintro e w' ⟨rfl, rfl⟩)
        have hI := HI.out
        go_round
        case rel => exact ⟨j + 1, _, by omega, by omega, rfl, by rw [HS.out], by rw [HT.out]⟩
        case measure => simp [intOf]; omega
      · have hkc : j = clampN n := by omega
        have HL2 := hid (show lo x.testBit (clampN n) = lo64 x.testBit j by rw [hkc]; exact HL.out)
        have HM2 := hid (show hi x.testBit (clampN n) = hi64 x.testBit j by rw [hkc]; exact HM.out)
        have hcc := clamp_end hkc
        by_cases h1 : I ≤ n
        · have h3 : ¬ I ≤ 64 := by omega
          clear hcc hge hkc hI
          go_wp2
          go_ret2
          exact ⟨by rw [HL2.out, HM2.out]; rfl, rfl⟩
        · clear hcc hge hkc hI
          go_wp2
          go_ret2
          exact ⟨by rw [HL2.out, HM2.out]; rfl, rfl⟩

end Go.Proofs.YtdhokioiloggeaaDoor
