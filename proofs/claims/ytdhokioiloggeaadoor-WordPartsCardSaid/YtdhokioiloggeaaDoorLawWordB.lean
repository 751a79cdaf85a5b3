/- Walks: the laws WordParts and WordEach return true. -/
import Derived.Test.YtdhokioiloggeaaDoorLawWord
import Derived.Test.YtdhokioiloggeaaDoorMath9
set_option linter.unusedVariables false
set_option linter.unusedSimpArgs false
set_option maxRecDepth 100000
namespace Go.Proofs.YtdhokioiloggeaaDoor
open Go.RowKit L

/-- The bits behind the first k. -/
theorem rest_bit (x k i : Nat) (hx : x < 18446744073709551616) (hk : k ≤ 64) : (fieldN x (k : Int) 64).testBit i = (decide (i < 64) && x.testBit (k + i)) := by
  unfold fieldN
  by_cases h64 : k = 64
  · subst h64
    rw [if_pos (by omega), Nat.zero_testBit, high_bit x _ hx (by omega), Bool.and_false]
  · rw [if_neg (by omega), if_neg (by omega), Nat.testBit_mod_two_pow, Nat.testBit_div_two_pow]
    have e : clampN 64 = 64 := by decide
    rw [e, Int.toNat_natCast, Nat.add_comm i k]
theorem ones_parts (x k : Nat) (hx : x < 18446744073709551616) (hk : k ≤ 64) : onesTo x k + onesTo (fieldN x (k : Int) 64) (64 - k) = onesTo x 64 := by
  have h := onesTo_add x k (64 - k)
  rw [show k + (64 - k) = 64 from by omega] at h
  rw [h]
  congr 1
  refine onesTo_congr _ (fun i hi => ?_)
  rw [rest_bit x k i hx hk, Nat.testBit_div_two_pow, Nat.add_comm i k]
  have : decide (i < 64) = true := by simp; omega
  rw [this, Bool.true_and]
theorem ex_parts (x k : Nat) (hx : x < 18446744073709551616) (hk : k ≤ 64) : ex x.testBit k + ex (fieldN x (k : Int) 64).testBit (64 - k) = ex x.testBit 64 := by
  have h := ex_add x.testBit k (64 - k)
  rw [show k + (64 - k) = 64 from by omega] at h
  rw [h]
  congr 1
  refine ex_congr _ (fun i hi => ?_)
  rw [rest_bit x k i hx hk]
  have : decide (i < 64) = true := by simp; omega
  rw [this, Bool.true_and]; rfl
theorem lo_part (f : Nat → Bool) (a b : Nat) (h0 : 0 < a) (h : a ≤ b) : lo f b ≤ lo f a := by
  have h1 := (lo_ge f (lo f b) b (by omega)).1 (Int.le_refl _)
  exact (lo_ge f (lo f b) a h0).2 (fun k hk hka => h1 k hk (by omega))
theorem hi_part (f : Nat → Bool) (a b : Nat) (h0 : 0 < a) (h : a ≤ b) : hi f a ≤ hi f b := by
  have h1 := (hi_le f (hi f b) b (by omega)).1 (Int.le_refl _)
  exact (hi_le f (hi f b) a h0).2 (fun k hk hka => h1 k hk (by omega))

set_option maxHeartbeats 4000000 in
theorem lawWordParts_any (x n : Nat) (w : World) (hx : x < 18446744073709551616) (hn : n < 256) (hT : Tab w) :
    Calls Tryd.prog 7 #[.int .u64 (x : Int), .int .u8 (n : Int)] w fun e w' => e = .returned (.bool true) ∧ Below w.heap.size w w' := by
  obtain ⟨k, hk⟩ : ∃ k, k = n % 65 := ⟨_, rfl⟩
  have hk64 : k ≤ 64 := by omega
  have hmod : (n : Int) % 65 = (k : Int) := by omega
  have hcl : clampN (k : Int) = k := clampN_nat hk64
  have hcr : clampN ((64 : Int) - (k : Int)) = 64 - k := by unfold clampN; omega
  have hc64 : clampN 64 = 64 := by decide
  have P1 := ones_parts x k hx hk64
  have P2 := ex_parts x k hx hk64
  have hv : fieldN x (k : Int) 64 < 18446744073709551616 := by
    have := fieldN_eq x (k : Int) 64 hx
    rw [← this]
    exact Nat.lt_of_lt_of_le (fieldTo_lt x _ _) (Nat.pow_le_pow_right (n := 2) (by omega) (clampN_le 64))
  have HA := hid (fun W hW => awake1 W hW)
  have HF := hid (fun W => field_any x (k : Int) 64 W hx)
  have HR1 := hid (fun W => by have := reach_any x (k : Int) W hx; rw [hcl] at this; exact this)
  have HR2 := hid (fun W => by have := reach_any x 64 W hx; rw [hc64] at this; exact this)
  have HO1 := hid (fun W => by have := ones_any x (k : Int) W hx; rw [hcl] at this; exact this)
  have HO2 := hid (fun W => by have := ones_any (fieldN x (k : Int) 64) ((64 : Int) - (k : Int)) W hv; rw [hcr] at this; exact this)
  have HO3 := hid (fun W => by have := ones_any x 64 W hx; rw [hc64] at this; exact this)
  have HE1 := hid (fun W => by have := excess_any x (k : Int) W hx; rw [hcl] at this; exact this)
  have HE2 := hid (fun W => by have := excess_any (fieldN x (k : Int) 64) ((64 : Int) - (k : Int)) W hv; rw [hcr] at this; exact this)
  have HE3 := hid (fun W => by have := excess_any x 64 W hx; rw [hc64] at this; exact this)
  have b1 := onesTo_le x k
  have b2 := onesTo_le (fieldN x (k : Int) 64) (64 - k)
  have b3 := ex_abs x.testBit k
  have b4 := ex_abs (fieldN x (k : Int) 64).testBit (64 - k)
  have l1 := lo_bound x.testBit k
  have l2 := lo_bound x.testBit 64
  have m1 := hi_bound x.testBit k
  have m2 := hi_bound x.testBit 64
  have QL : 0 < k → lo x.testBit 64 ≤ lo x.testBit k := fun h => lo_part x.testBit k 64 h hk64
  have QM : 0 < k → hi x.testBit k ≤ hi x.testBit 64 := fun h => hi_part x.testBit k 64 h hk64
  have hle := le_fl (lo x.testBit 64) (lo x.testBit k) (small_word (by omega) (by omega)) (small_word (by omega) (by omega))
  have hge := ge_fl (hi x.testBit 64) (hi x.testBit k) (small_word (by omega) (by omega)) (small_word (by omega) (by omega))
  have e1 : ((onesTo x k : Nat) : Int) + (onesTo (fieldN x (k : Int) 64) (64 - k) : Nat) = (onesTo x 64 : Nat) := by omega
  generalize onesTo x k = o1 at *
  generalize onesTo (fieldN x (k : Int) 64) (64 - k) = o2 at *
  generalize onesTo x 64 = o3 at *
  generalize ex x.testBit k = x1 at *
  generalize ex (fieldN x (k : Int) 64).testBit (64 - k) = x2 at *
  generalize ex x.testBit 64 = x3 at *
  generalize lo x.testBit k = lk at *
  generalize lo x.testBit 64 = la at *
  generalize hi x.testBit k = mk at *
  generalize hi x.testBit 64 = ma at *
  generalize fieldN x (k : Int) 64 = v at *
  have q1 : ((o1 : Int) + (o2 : Int) == (o3 : Int)) = true := by rw [beq_iff_eq]; exact e1
  have q2 : (x1 + x2 == x3) = true := by rw [beq_iff_eq]; exact P2
  clear hcl hcr hc64 P1 P2 e1 hk
  by_cases hk0 : k = 0
  · have hb : ((k : Int) == 0) = true := by rw [beq_iff_eq]; omega
    clear QL QM hle hge hk0
    go_enter Tryd.func7, Tryd.ntmps7
    go_wp2_with fail
    refine (HA.out _ hT).mono ?_
    rintro e w' ⟨rfl, rfl⟩
    go_wp2_with fail
    refine (HF.out _).mono ?_
    rintro e w' ⟨rfl, m, rfl⟩
    go_wp2_with fail
    refine (HR1.out _).mono ?_
    rintro e w' ⟨rfl, rfl⟩
    go_wp2_with fail
    refine (HR2.out _).mono ?_
    rintro e w' ⟨rfl, rfl⟩
    go_wp2_with fail
    refine (HO1.out _).mono ?_
    rintro e w' ⟨rfl, rfl⟩
    go_wp2_with fail
    refine (HO2.out _).mono ?_
    rintro e w' ⟨rfl, rfl⟩
    go_wp2_with fail
    refine (HO3.out _).mono ?_
    rintro e w' ⟨rfl, rfl⟩
    go_wp2_with fail
    refine (HE1.out _).mono ?_
    rintro e w' ⟨rfl, rfl⟩
    go_wp2_with fail
    refine (HE2.out _).mono ?_
    rintro e w' ⟨rfl, rfl⟩
    go_wp2_with fail
    refine (HE3.out _).mono ?_
    rintro e w' ⟨rfl, rfl⟩
    go_wp2
    go_ret
    exact ⟨rfl, below_self _ _⟩
  · have hb : ((k : Int) == 0) = false := by rw [beq_eq_false_iff_ne]; omega
    rw [decide_eq_true (QL (by omega))] at hle
    rw [decide_eq_true (QM (by omega))] at hge
    clear QL QM hk0
    go_enter Tryd.func7, Tryd.ntmps7
    go_wp2_with fail
    refine (HA.out _ hT).mono ?_
    rintro e w' ⟨rfl, rfl⟩
    go_wp2_with fail
    refine (HF.out _).mono ?_
    rintro e w' ⟨rfl, m, rfl⟩
    go_wp2_with fail
    refine (HR1.out _).mono ?_
    rintro e w' ⟨rfl, rfl⟩
    go_wp2_with fail
    refine (HR2.out _).mono ?_
    rintro e w' ⟨rfl, rfl⟩
    go_wp2_with fail
    refine (HO1.out _).mono ?_
    rintro e w' ⟨rfl, rfl⟩
    go_wp2_with fail
    refine (HO2.out _).mono ?_
    rintro e w' ⟨rfl, rfl⟩
    go_wp2_with fail
    refine (HO3.out _).mono ?_
    rintro e w' ⟨rfl, rfl⟩
    go_wp2_with fail
    refine (HE1.out _).mono ?_
    rintro e w' ⟨rfl, rfl⟩
    go_wp2_with fail
    refine (HE2.out _).mono ?_
    rintro e w' ⟨rfl, rfl⟩
    go_wp2_with fail
    refine (HE3.out _).mono ?_
    rintro e w' ⟨rfl, rfl⟩
    go_wp2
    go_ret
    exact ⟨rfl, below_self _ _⟩

/-- What is reached, is on the way. -/
theorem ex_reach_up (f : Nat → Bool) (d : Int) : ∀ n, (∃ a, 0 < a ∧ a ≤ n ∧ ex f a ≤ d) → (∃ b, 0 < b ∧ b ≤ n ∧ d ≤ ex f b) → ∃ k, 0 < k ∧ k ≤ n ∧ ex f k = d
  | 0, ⟨a, h1, h2, _⟩, _ => by omega
  | n + 1, ⟨a, a1, a2, a3⟩, ⟨b, b1, b2, b3⟩ => by
    by_cases h : ex f (n + 1) = d
    · exact ⟨n + 1, by omega, by omega, h⟩
    · have hs : ex f (n + 1) = ex f n + sgn (f n) := rfl
      have hg := sgn_abs (f n)
      rcases Nat.eq_zero_or_pos n with h0 | h0
      · subst h0
        have ha : a = 1 := by omega
        have hb : b = 1 := by omega
        subst ha hb
        exact absurd (show ex f 1 = d by omega) h
      · obtain ⟨k, k1, k2, k3⟩ := ex_reach_up f d n (by
          rcases Nat.lt_or_ge n a with h2 | h2
          · have e : a = n + 1 := by omega
            subst e
            rcases Nat.lt_or_ge n b with h3 | h3
            · have e : b = n + 1 := by omega
              subst e; exact absurd (show ex f (n + 1) = d by omega) h
            · exact ⟨n, h0, Nat.le_refl _, by omega⟩
          · exact ⟨a, a1, h2, a3⟩) (by
          rcases Nat.lt_or_ge n b with h2 | h2
          · have e : b = n + 1 := by omega
            subst e
            rcases Nat.lt_or_ge n a with h3 | h3
            · have e : a = n + 1 := by omega
              subst e; exact absurd (show ex f (n + 1) = d by omega) h
            · exact ⟨n, h0, Nat.le_refl _, by omega⟩
          · exact ⟨b, b1, h2, b3⟩)
        exact ⟨k, k1, by omega, k3⟩
theorem lo_is (f : Nat → Bool) : ∀ n, 0 < n → ∃ k, 0 < k ∧ k ≤ n ∧ ex f k = lo f n
  | 0, h => by omega
  | n + 1, _ => by
    simp only [lo]
    by_cases h0 : n = 0
    · subst h0; rw [if_pos rfl]; exact ⟨1, by omega, by omega, rfl⟩
    · rw [if_neg h0]
      obtain ⟨k, k1, k2, k3⟩ := lo_is f n (by omega)
      by_cases h : lo f n ≤ ex f (n + 1)
      · exact ⟨k, k1, by omega, by omega⟩
      · exact ⟨n + 1, by omega, by omega, by omega⟩
theorem hi_is (f : Nat → Bool) : ∀ n, 0 < n → ∃ k, 0 < k ∧ k ≤ n ∧ ex f k = hi f n
  | 0, h => by omega
  | n + 1, _ => by
    simp only [hi]
    by_cases h0 : n = 0
    · subst h0; rw [if_pos rfl]; exact ⟨1, by omega, by omega, rfl⟩
    · rw [if_neg h0]
      obtain ⟨k, k1, k2, k3⟩ := hi_is f n (by omega)
      by_cases h : ex f (n + 1) ≤ hi f n
      · exact ⟨k, k1, by omega, by omega⟩
      · exact ⟨n + 1, by omega, by omega, by omega⟩
theorem fnd_iff (f : Nat → Bool) (d : Int) (n : Nat) (h : 0 < n) : fnd f d n ≠ 0 ↔ lo f n ≤ d ∧ d ≤ hi f n := by
  constructor
  · intro h0
    have he := fnd_ex f d n h0
    have hl := fnd_le f d n
    have h1 := (lo_ge f (lo f n) n h).1 (Int.le_refl _) _ (by omega) hl
    have h2 := (hi_le f (hi f n) n h).1 (Int.le_refl _) _ (by omega) hl
    omega
  · intro ⟨h1, h2⟩ h0
    have hn := (fnd_none f d n).1 h0
    obtain ⟨a, a1, a2, a3⟩ := lo_is f n h
    obtain ⟨b, b1, b2, b3⟩ := hi_is f n h
    obtain ⟨k, k1, k2, k3⟩ := ex_reach_up f d n ⟨a, a1, a2, by omega⟩ ⟨b, b1, b2, by omega⟩
    exact hn k k1 k2 k3
theorem field_one (x i : Nat) (hx : x < 18446744073709551616) (hi : i < 64) : fieldN x (i : Int) 1 = (x.testBit i).toNat := by
  unfold fieldN
  have e : clampN 1 = 1 := by decide
  rw [if_neg (by omega), if_neg (by omega), e, Int.toNat_natCast, Nat.pow_one, Nat.testBit_eq_decide_div_mod_eq]
  rcases Nat.mod_two_eq_zero_or_one (x / 2 ^ i) with h | h <;> rw [h] <;> rfl

set_option maxHeartbeats 4000000 in
theorem lawWordEach_any (x : Nat) (d : Int) (w : World) (hx : x < 18446744073709551616) (hd1 : -128 ≤ d) (hd2 : d ≤ 127) (hT : Tab w) :
    Calls Tryd.prog 8 #[.int .u64 (x : Int), .int .i8 d] w fun e w' => e = .returned (.bool true) ∧ Below w.heap.size w w' := by
  have hc64 : clampN 64 = 64 := by decide
  have HA := hid (fun W hW => awake1 W hW)
  have HR := hid (fun W => by have := reach_any x 64 W hx; rw [hc64] at this; exact this)
  have HF := hid (fun W => by have := find_any x 64 d W hx; rw [hc64] at this; exact this)
  have HO := hid (fun W => by have := ones_any x 64 W hx; rw [hc64] at this; exact this)
  have HS := hid (fun W hW => by have := select_any x (onesTo x 64 : Nat) W hx hW; rw [selN_none x (onesTo x 64 : Nat) (Or.inr (by omega))] at this; exact this)
  have hfl : ∀ z, floatOfInt .f64 z = fl z := fun _ => rfl
  go_enter Tryd.func8, Tryd.ntmps8
  go_wp2_with fail
  refine (HA.out _ hT).mono ?_
  rintro e w' ⟨rfl, rfl⟩
  go_wp2_with fail
  go_loopw [5, 6] (fun k i wr => ∃ (j m : Nat), j ≤ 64 ∧ i = .int .i64 j ∧ k = .int .i64 (onesTo x j : Nat) ∧ wr = w.drewN m) (fun _ i _ => 64 - (intOf i).toNat)
  case atStart => exact ⟨0, 0, by omega, rfl, rfl, rfl⟩
  case round =>
    obtain ⟨j, m, hj, rfl, rfl, rfl⟩ := hrel
    have hoj := onesTo_le x j
    rcases Nat.lt_or_ge j 64 with hlt | hge
    · have hji : (j : Int) < 64 := by omega
      have HFI := hid (fun W => by have := field_any x (j : Int) 1 W hx; rw [field_one x j hx hlt] at this; exact this)
      have HN := hid (show onesTo x (j + 1) = onesTo x j + (x.testBit j).toNat from rfl)
      have HOJ := hid (fun W => by have := ones_any x (j : Int) W hx; rw [clampN_nat hj] at this; exact this)
      cases hb : x.testBit j
      · rw [hb] at HFI HN
        clear hb
        go_wp2_with fail
        refine (HFI.out _).mono ?_
        rintro e w' ⟨rfl, m2, rfl⟩
        go_wp2
        go_roundw
        case rel => exact ⟨j + 1, m + m2, by omega, by go_num, by rw [HN.out]; rfl, rfl⟩
        case measure => simp [intOf]; omega
      · have HSJ := hid (fun W hW => by have := select_any x (onesTo x j : Nat) W hx hW; rw [selN_eq x j _ hb rfl hlt] at this; exact this)
        rw [hb] at HFI HN
        clear hb
        generalize onesTo x j = o at *
        go_wp2_with fail
        refine (HFI.out _).mono ?_
        rintro e w' ⟨rfl, m2, rfl⟩
        go_wp2_with fail
        refine (HSJ.out _ (by exact hT)).mono ?_
        rintro e w' ⟨rfl, rfl⟩
        go_wp2_with fail
        refine (HOJ.out _).mono ?_
        rintro e w' ⟨rfl, rfl⟩
        go_wp2
        go_roundw
        case rel => exact ⟨j + 1, m + m2, by omega, by go_num, by rw [show onesTo x (j + 1) = o + 1 from HN.out]; go_num, rfl⟩
        case measure => simp [intOf]; omega
    · obtain rfl : j = 64 := by omega
      have l1 := lo_bound x.testBit 64
      have m1 := hi_bound x.testBit 64
      have hge1 := ge_fl d (lo x.testBit 64) (small_word (by omega) (by omega)) (small_word (by omega) (by omega))
      have hle1 := le_fl d (hi x.testBit 64) (small_word (by omega) (by omega)) (small_word (by omega) (by omega))
      have hfi := fnd_iff x.testBit d 64 (by omega)
      have hfe := fnd_ex x.testBit d 64
      have hfl2 := fnd_le x.testBit d 64
      have HE := hid (show fnd x.testBit d 64 ≠ 0 → ∀ W, Calls Tryd.prog 18 #[.int .u64 (x : Int), .int .i64 (fnd x.testBit d 64 : Nat)] W fun e w' => e = .returned (.int .i64 d) ∧ W = w' from fun h0 W => by
        have := excess_any x (fnd x.testBit d 64 : Nat) W hx
        rw [clampN_nat hfl2, hfe h0] at this
        exact this)
      generalize onesTo x 64 = o at *
      generalize lo x.testBit 64 = lo0 at *
      generalize hi x.testBit 64 = hi0 at *
      generalize fnd x.testBit d 64 = at0 at *
      by_cases h1 : lo0 ≤ d
      · rw [decide_eq_true h1] at hge1
        by_cases h2 : d ≤ hi0
        · rw [decide_eq_true h2] at hle1
          have h0 : at0 ≠ 0 := hfi.2 ⟨h1, h2⟩
          have HE := hid (HE.out h0)
          have hpos : (0 : Int) < (at0 : Int) := by omega
          have hb0 : ((at0 : Int) == 0) = false := by rw [beq_eq_false_iff_ne]; omega
          clear hfi hfe h0
          go_wp2_with fail
          refine (HR.out _).mono ?_
          rintro e w' ⟨rfl, rfl⟩
          go_wp2_with fail
          refine (HF.out _).mono ?_
          rintro e w' ⟨rfl, rfl⟩
          go_wp2_with fail
          refine (HS.out _ (by exact hT)).mono ?_
          rintro e w' ⟨rfl, rfl⟩
          go_wp2_with fail
          refine (HO.out _).mono ?_
          rintro e w' ⟨rfl, rfl⟩
          go_wp2_with fail
          refine (HE.out _).mono ?_
          rintro e w' ⟨rfl, rfl⟩
          go_wp2
          go_ret
          exact ⟨rfl, below_self _ _⟩
        · rw [decide_eq_false h2] at hle1
          have h0 : at0 = 0 := by
            rcases Nat.eq_zero_or_pos at0 with h | h
            · exact h
            · exact absurd (hfi.1 (by omega)).2 h2
          subst h0
          clear hfi hfe HE hfl2
          go_wp2_with fail
          refine (HR.out _).mono ?_
          rintro e w' ⟨rfl, rfl⟩
          go_wp2_with fail
          refine (HF.out _).mono ?_
          rintro e w' ⟨rfl, rfl⟩
          go_wp2_with fail
          refine (HS.out _ (by exact hT)).mono ?_
          rintro e w' ⟨rfl, rfl⟩
          go_wp2_with fail
          refine (HO.out _).mono ?_
          rintro e w' ⟨rfl, rfl⟩
          go_wp2
          go_ret
          exact ⟨rfl, below_self _ _⟩
      · rw [decide_eq_false h1] at hge1
        have h0 : at0 = 0 := by
          rcases Nat.eq_zero_or_pos at0 with h | h
          · exact h
          · exact absurd (hfi.1 (by omega)).1 h1
        subst h0
        clear hfi hfe HE hfl2
        go_wp2_with fail
        refine (HR.out _).mono ?_
        rintro e w' ⟨rfl, rfl⟩
        go_wp2_with fail
        refine (HF.out _).mono ?_
        rintro e w' ⟨rfl, rfl⟩
        go_wp2_with fail
        refine (HS.out _ (by exact hT)).mono ?_
        rintro e w' ⟨rfl, rfl⟩
        go_wp2_with fail
        refine (HO.out _).mono ?_
        rintro e w' ⟨rfl, rfl⟩
        go_wp2
        go_ret
        exact ⟨rfl, below_self _ _⟩

end Go.Proofs.YtdhokioiloggeaaDoor
