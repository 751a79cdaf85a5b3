/- Walks: a word's excess, its reach, and where it is found. -/
import Derived.Test.YtlpnbkfcbamnbaaDoorSup
import Derived.Test.YtlpnbkfcbamnbaaDoorWordA
import Derived.Test.YtlpnbkfcbamnbaaDoorMath7
import Derived.Test.YtlpnbkfcbamnbaaDoorFloat
import Derived.Laws.Cover3
set_option linter.unusedVariables false
set_option linter.unusedSimpArgs false
set_option maxRecDepth 100000
namespace Go.Proofs.YtlpnbkfcbamnbaaDoor
open Go.RowKit L

theorem fl_zero : fl 0 = 0 := by decide

theorem bit0_and (x : Nat) (hx : x < 18446744073709551616) : bits BinOp.and IntKind.u64 (x : Int) 1 = (((x.testBit 0).toNat : Nat) : Int) := by
  have e := u64_and_nat x 1 hx (by omega)
  rw [Nat.and_one_is_mod] at e
  rw [show ((1 : Nat) : Int) = 1 from rfl] at e
  rw [e, Nat.testBit_zero]
  rcases Nat.mod_two_eq_zero_or_one x with h | h <;> rw [h] <;> rfl

theorem excess_any (x : Nat) (n : Int) (w : World) (hx : x < 18446744073709551616) :
    Calls Tryd.prog 145 #[.int .u64 (x : Int), .int .i64 n] w fun e w' => e = .returned (.int .i64 (ex x.testBit (clampN n))) ∧ w = w' := by
  have hc := clampN_le n
  have ho := onesTo_le x (clampN n)
  have HE := hid (ex_ones x (clampN n))
  have HF := hid (fun W => first_any n W)
  have HO := hid (fun W => ones_any x n W hx)
  generalize ex x.testBit (clampN n) = z at *
  generalize clampN n = c at *
  generalize onesTo x c = o at *
  go_enter Tryd.func145, Tryd.ntmps145
  go_wp2_with (first
    | (go_at_call 138; refine (HO.out _).mono ?_; rintro e w' ⟨rfl, rfl⟩)
    | (go_at_call 155; refine (HF.out _).mono ?_; rintro e w' ⟨rfl, rfl⟩))
  go_ret
  have he := HE.out
  exact ⟨by rw [he]; go_num, rfl⟩

set_option maxHeartbeats 1000000 in
theorem reach_any (x : Nat) (n : Int) (w : World) (hx : x < 18446744073709551616) :
    Calls Tryd.prog 153 #[.int .u64 (x : Int), .int .i64 n] w fun e w' => e = .returned (.complex .f64 (fl (lo x.testBit (clampN n))) (fl (hi x.testBit (clampN n)))) ∧ w = w' := by
  have hc := clampN_le n
  have HF := hid (fun W => first_any n W)
  generalize clampN n = c at *
  rcases Nat.eq_zero_or_pos c with h0 | h0
  · subst h0
    go_enter Tryd.func153, Tryd.ntmps153
    go_wp2_with (go_at_call 155; refine (HF.out _).mono ?_; rintro e w' ⟨rfl, rfl⟩)
    go_ret
    exact ⟨by rw [show lo x.testBit 0 = 0 from rfl, show hi x.testBit 0 = 0 from rfl, fl_zero]; rfl, rfl⟩
  · have hc0 : ((c : Int) == 0) = false := by rw [beq_eq_false_iff_ne]; omega
    go_enter Tryd.func153, Tryd.ntmps153
    go_wp2_with (go_at_call 155; refine (HF.out _).mono ?_; rintro e w' ⟨rfl, rfl⟩)
    go_loop [0, 5, 6, 7, 13] (fun a l h e i => ∃ k : Nat, k ≤ c ∧ a = .int .u64 (x / 2 ^ k : Nat) ∧ l = .int .i64 (lo64 x.testBit k) ∧ h = .int .i64 (hi64 x.testBit k) ∧ e = .int .i64 (ex x.testBit k) ∧ i = .int .i64 k) (fun _ _ _ _ i => c - (intOf i).toNat)
    case atStart => exact ⟨0, by omega, by simp, rfl, rfl, rfl, rfl⟩
    case round =>
      obtain ⟨k, hk, rfl, rfl, rfl, rfl, rfl⟩ := hrel
      have hex := ex_abs x.testBit k
      rcases Nat.lt_or_ge k c with hlt | hge
      · have hki : (k : Int) < (c : Int) := by omega
        have hX : x / 2 ^ k < 18446744073709551616 := Nat.lt_of_le_of_lt (Nat.div_le_self _ _) hx
        have hb := bit0_and (x / 2 ^ k) hX
        have hb2 : (x / 2 ^ k).testBit 0 = x.testBit k := by rw [Nat.testBit_div_two_pow]; simp
        rw [hb2] at hb
        have hs := hid (show ex x.testBit (k + 1) = ex x.testBit k + (((x.testBit k).toNat : Nat) : Int) * 2 - 1 by
          simp only [ex]; cases x.testBit k <;> simp [sgn] <;> omega)
        have hl := hid (lo64_succ x.testBit k (by omega))
        have hh := hid (hi64_succ x.testBit k (by omega))
        have hd := hid (show x / 2 ^ (k + 1) = x / 2 ^ k / 2 by rw [Nat.pow_succ, Nat.div_div_eq_div_mul])
        have hex2 := ex_abs x.testBit (k + 1)
        have ht : (x.testBit k).toNat ≤ 1 := Bool.toNat_le _
        clear hb2
        generalize (x.testBit k).toNat = tt at *
        generalize x / 2 ^ k = X at *
        generalize lo64 x.testBit k = L0 at *
        generalize hi64 x.testBit k = H0 at *
        generalize ex x.testBit k = E0 at *
        go_wp2
        go_round
        case rel => exact ⟨k + 1, by omega, by rw [hd.out]; simp, by rw [hl.out, hs.out]; go_num, by rw [hh.out, hs.out]; go_num, by rw [hs.out]; go_num, by go_num⟩
        case measure => simp [intOf]; omega
      · obtain rfl : k = c := by omega
        have e1 : lo64 x.testBit k = lo x.testBit k := by unfold lo64; rw [if_neg (by omega)]
        have e2 : hi64 x.testBit k = hi x.testBit k := by unfold hi64; rw [if_neg (by omega)]
        have hki : ¬ ((k : Int) < (k : Int)) := by omega
        rw [e1, e2]
        go_wp2
        go_ret
        exact ⟨rfl, rfl⟩

set_option maxHeartbeats 1000000 in
theorem find_any (x : Nat) (n d : Int) (w : World) (hx : x < 18446744073709551616) :
    Calls Tryd.prog 150 #[.int .u64 (x : Int), .int .i64 n, .int .i64 d] w fun e w' => e = .returned (.int .i64 (fnd x.testBit d (clampN n) : Nat)) ∧ w = w' := by
  have hc := clampN_le n
  have HF := hid (fun W => first_any n W)
  generalize clampN n = c at *
  go_enter Tryd.func150, Tryd.ntmps150
  go_wp2_with fail
  refine wp_scope_jumps 0 (fun a' w' => w' = w ∧ ∃ (k : Nat) (u3 u4 u5 u9 u10 u11 u12 u13 u14 u15 u16 u17 u18 u19 u20 u21 u22 u23 u24 u25 u26 u27 u28 : Value), a' = { tmps := #[.int .u64 (x : Nat), .int .i64 (c : Nat), .int .i64 d, u3, u4, u5, .int .i64 0, .int .i64 (k : Nat), .int .i64 (ex x.testBit k), u9, u10, u11, u12, u13, u14, u15, u16, u17, u18, u19, u20, u21, u22, u23, u24, u25, u26, u27, u28], defers := [] } ∧ k ≤ c ∧ fnd x.testBit d k = 0) (fun a' _ => c - (intOf (a'.tmps.getD 7 undef)).toNat) rfl ?_ ?_
  · go_wp2_with (go_at_call 155; refine (HF.out _).mono ?_; rintro e w' ⟨rfl, rfl⟩)
    go_step3
    rcases Nat.eq_zero_or_pos c with h0 | h0
    · subst h0
      go_wp2
      simp only [Exit.jump]
      go_ret
      exact ⟨rfl, rfl⟩
    · have hkc : ((0 : Int) == (c : Int)) = false := by rw [beq_eq_false_iff_ne]; omega
      have hb := bit0_and x hx
      have HS := hid (show ex x.testBit 1 = (((x.testBit 0).toNat : Nat) : Int) * 2 - 1 by
        simp only [ex]; cases x.testBit 0 <;> simp [sgn])
      have HF0 := hid (show fnd x.testBit d 1 = if ex x.testBit 1 = d then 1 else 0 from rfl)
      have HFA := hid (show ex x.testBit 1 = d → fnd x.testBit d c = 1 from fun h => by
        obtain ⟨b, rfl⟩ : ∃ b, c = 1 + b := ⟨c - 1, by omega⟩
        have h1 : fnd x.testBit d 1 = 1 := by rw [HF0.out, if_pos h]
        rw [fnd_keep _ _ _ _ (by omega), h1])
      have ht : (x.testBit 0).toNat ≤ 1 := Bool.toNat_le _
      generalize (x.testBit 0).toNat = tt at *
      by_cases he : ex x.testBit 1 = d
      · have hne : (((tt : Int) * 2 - 1) != d) = false := by rw [bne_eq_false_iff_eq, ← HS.out]; exact he
        have hres := HFA.out he
        clear he
        go_wp2
        simp only [Exit.jump]
        go_ret
        exact ⟨by rw [hres]; go_num, rfl⟩
      · have hne : (((tt : Int) * 2 - 1) != d) = true := by rw [bne_iff_ne, ← HS.out]; exact he
        have hf1 : fnd x.testBit d 1 = 0 := by rw [HF0.out, if_neg he]
        clear he
        go_wp2
        go_step3
        rw [← HS.out]
        exact ⟨rfl, rfl, 1, _, _, _, _, _, _, _, _, _, _, _, _, _, _, _, _, _, _, _, _, _, _, _, rfl, by omega, hf1⟩
  · rintro a' w' ⟨rfl, k, u3, u4, u5, u9, u10, u11, u12, u13, u14, u15, u16, u17, u18, u19, u20, u21, u22, u23, u24, u25, u26, u27, u28, rfl, hk, hf⟩
    rcases Nat.lt_or_ge k c with hlt | hge
    · have hkc : ((k : Int) == (c : Int)) = false := by rw [beq_eq_false_iff_ne]; omega
      have hX : x / 2 ^ k < 18446744073709551616 := Nat.lt_of_le_of_lt (Nat.div_le_self _ _) hx
      have hb := bit0_and (x / 2 ^ k) hX
      have hb2 : (x / 2 ^ k).testBit 0 = x.testBit k := by rw [Nat.testBit_div_two_pow]; simp
      rw [hb2, show ((x / 2 ^ k : Nat) : Int) = (x : Int) / 2 ^ k from by simp] at hb
      have HS := hid (show ex x.testBit (k + 1) = ex x.testBit k + ((((x.testBit k).toNat : Nat) : Int) * 2 - 1) by
        simp only [ex]; cases x.testBit k <;> simp [sgn])
      have HF0 := hid (show fnd x.testBit d (k + 1) = if ex x.testBit (k + 1) = d then k + 1 else 0 by simp only [fnd]; rw [if_neg (by omega)])
      have HFA := hid (show ex x.testBit (k + 1) = d → fnd x.testBit d c = k + 1 from fun h => by
        obtain ⟨b, rfl⟩ : ∃ b, c = k + 1 + b := ⟨c - (k + 1), by omega⟩
        have h1 : fnd x.testBit d (k + 1) = k + 1 := by rw [HF0.out, if_pos h]
        rw [fnd_keep _ _ _ _ (by omega), h1])
      have ht : (x.testBit k).toNat ≤ 1 := Bool.toNat_le _
      have hex := ex_abs x.testBit k
      have HKE := hid (rfl : ex x.testBit k = ex x.testBit k)
      clear hb2
      generalize (x.testBit k).toNat = tt at *
      generalize hE : ex x.testBit k = E0 at *
      have HEE := hid hE
      clear hE
      by_cases he : ex x.testBit (k + 1) = d
      · have hne : ((E0 + ((tt : Int) * 2 - 1)) != d) = false := by rw [bne_eq_false_iff_eq, ← HS.out]; exact he
        have hres := HFA.out he
        clear he
        go_wp2
        simp only [Exit.jump]
        go_ret
        exact ⟨by rw [hres]; go_num, rfl⟩
      · have hne : ((E0 + ((tt : Int) * 2 - 1)) != d) = true := by rw [bne_iff_ne, ← HS.out]; exact he
        have hf1 : fnd x.testBit d (k + 1) = 0 := by rw [HF0.out, if_neg he]
        clear he
        go_wp2
        go_step3
        rw [← HS.out]
        refine ⟨rfl, ⟨rfl, k + 1, _, _, _, _, _, _, _, _, _, _, _, _, _, _, _, _, _, _, _, _, _, _, _, rfl, by omega, hf1⟩, ?_⟩
        simp [intOf]; omega
    · obtain rfl : k = c := by omega
      go_wp2
      simp only [Exit.jump]
      go_ret
      exact ⟨by rw [hf]; rfl, rfl⟩

end Go.Proofs.YtlpnbkfcbamnbaaDoor
