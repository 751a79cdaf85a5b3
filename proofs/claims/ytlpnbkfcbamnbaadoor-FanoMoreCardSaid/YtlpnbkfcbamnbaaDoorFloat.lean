/- Plain laws: floats that stand for small whole numbers. No program in sight. -/
import Derived.Laws.FloatArith
import Derived.Laws.Cover3
import Derived.Laws.ComplexArith
set_option linter.unusedVariables false
set_option linter.unusedSimpArgs false
namespace Go.Proofs.YtlpnbkfcbamnbaaDoor
open Go

namespace L
/-- A float of 64 bits for a whole number. -/
def fl (n : Int) : Nat := floatOfInt .f64 n
/-- The numbers that floats of 64 bits have all. -/
def Small (n : Int) : Prop := n.natAbs < 9007199254740992

/-- The datum stands for the whole number. -/
def Rep (d : Ieee.Datum) (n : Int) : Prop := ∃ s M P, d = .number s M P ∧ P ≤ 0 ∧ s = decide (n < 0) ∧ ∀ base : Int, base ≤ P → Ieee.signed s M (P - base).toNat = n * 2 ^ (-base).toNat

theorem fl_eq (n : Int) : fl n = Ieee.double.nearest (n < 0) n.natAbs 0 := rfl

theorem cut_even_zero (neg : Bool) (n : Nat) : Ieee.Toward.even.cut neg n 0 = n := by
  unfold Ieee.Toward.cut
  simp [Nat.mod_one]

theorem log2_bounds {m : Nat} (h : m ≠ 0) : 2 ^ m.log2 ≤ m ∧ m < 2 ^ (m.log2 + 1) := ⟨Nat.log2_self_le h, Nat.lt_log2_self⟩

theorem log2_small {m : Nat} (h0 : m ≠ 0) (h : m < 9007199254740992) : m.log2 ≤ 52 := by
  have := (Nat.log2_lt h0 (k := 53)).2 h
  omega

theorem leastPlace_double : Ieee.double.leastPlace = -1074 := by decide
theorem fraction_double : Ieee.double.fractionBits = 52 := rfl

/-- The word of a whole number that is not 0. -/
theorem nearest_small (neg : Bool) (m : Nat) (h0 : m ≠ 0) (h : m < 9007199254740992) :
    Ieee.double.nearest neg m 0 = Ieee.double.word neg ((m.log2 + 1022) * 4503599627370496 + m * 2 ^ (52 - m.log2)) := by
  have hl := log2_small h0 h
  have hb := log2_bounds h0
  unfold Ieee.Format.nearest
  rw [if_neg h0, leastPlace_double, fraction_double]
  have hlast : max ((0 : Int) + (m.log2 : Nat) - (52 : Nat)) (-1074) = (m.log2 : Int) - 52 := by omega
  simp only [hlast]
  rw [show ((0 : Int) - ((m.log2 : Int) - 52)).toNat = 52 - m.log2 from by omega, show (((m.log2 : Int) - 52) - 0).toNat = 0 from by omega, cut_even_zero,
    show (((m.log2 : Int) - 52) - (-1074)).toNat = m.log2 + 1022 from by omega, Nat.shiftLeft_eq]
  have hK : m * 2 ^ (52 - m.log2) < 9007199254740992 := by
    have h1 : m * 2 ^ (52 - m.log2) < 2 ^ (m.log2 + 1) * 2 ^ (52 - m.log2) := Nat.mul_lt_mul_of_pos_right hb.2 (Nat.two_pow_pos _)
    rw [← Nat.pow_add, show m.log2 + 1 + (52 - m.log2) = 53 from by omega] at h1
    omega
  have hbin : Ieee.double.binade = 4503599627370496 := by decide
  have hinf : Ieee.double.infRung = 2047 * 4503599627370496 := by decide
  rw [hbin, hinf, Nat.min_eq_left (by omega)]

theorem signed_shift (s : Bool) (m a b : Nat) : Ieee.signed s (m * 2 ^ a) b = (if s then -(m : Int) else (m : Int)) * 2 ^ (a + b) := by
  unfold Ieee.signed
  rw [Nat.shiftLeft_eq]
  have e : ((m * 2 ^ a * 2 ^ b : Nat) : Int) = (m : Int) * 2 ^ (a + b) := by
    rw [Nat.mul_assoc, ← Nat.pow_add]; simp
  cases s
  · simp only [Bool.false_eq_true, if_false]; exact e
  · simp only [if_true]; rw [e, Int.neg_mul]

theorem rep_fl (n : Int) (h : Small n) : Rep (Ieee.double.read (fl n)) n := by
  unfold Small at h
  have hbin : Ieee.double.binade = 4503599627370496 := by decide
  have hsw : Ieee.double.signWeight = 9223372036854775808 := by decide
  have hinf : Ieee.double.infRung = 2047 * 4503599627370496 := by decide
  by_cases hn : n = 0
  · subst hn
    have e : Ieee.double.read (fl 0) = .number false 0 (-1074) := by decide
    rw [e]
    refine ⟨false, 0, -1074, rfl, by omega, rfl, fun base hb => ?_⟩
    unfold Ieee.signed
    simp
  · have h0 : n.natAbs ≠ 0 := by omega
    rw [fl_eq, nearest_small _ _ h0 h]
    have hl := log2_small h0 h
    have hb := log2_bounds h0
    generalize hm : n.natAbs = m at *
    have hK1 : m * 2 ^ (52 - m.log2) < 9007199254740992 := by
      have h1 : m * 2 ^ (52 - m.log2) < 2 ^ (m.log2 + 1) * 2 ^ (52 - m.log2) := Nat.mul_lt_mul_of_pos_right hb.2 (Nat.two_pow_pos _)
      rw [← Nat.pow_add, show m.log2 + 1 + (52 - m.log2) = 53 from by omega] at h1
      omega
    have hK2 : 4503599627370496 ≤ m * 2 ^ (52 - m.log2) := by
      have h1 : 2 ^ m.log2 * 2 ^ (52 - m.log2) ≤ m * 2 ^ (52 - m.log2) := Nat.mul_le_mul_right _ hb.1
      rw [← Nat.pow_add, show m.log2 + (52 - m.log2) = 52 from by omega] at h1
      omega
    obtain ⟨K, hKe⟩ : ∃ K, K = m * 2 ^ (52 - m.log2) := ⟨_, rfl⟩
    rw [← hKe] at hK1 hK2 ⊢
    have hread : Ieee.double.read (Ieee.double.word (decide (n < 0)) ((m.log2 + 1022) * 4503599627370496 + K)) = .number (decide (n < 0)) K ((m.log2 : Int) - 52) := by
      unfold Ieee.Format.read Ieee.Format.word
      rw [hsw, hbin, hinf, leastPlace_double]
      have e1 : (if decide (n < 0) = true then 9223372036854775808 + ((m.log2 + 1022) * 4503599627370496 + K) else (m.log2 + 1022) * 4503599627370496 + K) % 9223372036854775808 = (m.log2 + 1022) * 4503599627370496 + K := by
        split <;> omega
      have e2 : ((if decide (n < 0) = true then 9223372036854775808 + ((m.log2 + 1022) * 4503599627370496 + K) else (m.log2 + 1022) * 4503599627370496 + K) / 9223372036854775808 % 2 == 1) = decide (n < 0) := by
        by_cases hs : n < 0
        · simp only [hs, decide_true, if_true]; rw [beq_iff_eq]; omega
        · simp only [hs, decide_false, Bool.false_eq_true, if_false]; rw [beq_eq_false_iff_ne]; omega
      simp only [e1, e2]
      rw [if_neg (by omega), if_pos (by omega)]
      have e3 : 4503599627370496 + ((m.log2 + 1022) * 4503599627370496 + K) % 4503599627370496 = K := by omega
      have e4 : ((m.log2 + 1022) * 4503599627370496 + K) / 4503599627370496 - 1 = m.log2 + 1022 := by omega
      rw [e3, e4, show (-1074 : Int) + ((m.log2 + 1022 : Nat) : Int) = (m.log2 : Int) - 52 from by omega]
    rw [hread]
    refine ⟨decide (n < 0), K, (m.log2 : Int) - 52, rfl, by omega, rfl, fun base hbase => ?_⟩
    rw [hKe, signed_shift]
    have e5 : (52 - m.log2) + ((m.log2 : Int) - 52 - base).toNat = (-base).toNat := by omega
    rw [e5]
    congr 1
    by_cases hs : n < 0
    · simp only [hs, decide_true, if_true]; omega
    · simp only [hs, decide_false, Bool.false_eq_true, if_false]; omega

theorem compare_scaled (a b : Int) (e : Nat) : compare (a * 2 ^ e) (b * 2 ^ e) = compare a b := by
  have hp : (0 : Int) < 2 ^ e := Int.pow_pos (by omega)
  have e1 : a * 2 ^ e < b * 2 ^ e ↔ a < b := ⟨fun h => Int.lt_of_mul_lt_mul_right h (Int.le_of_lt hp), fun h => Int.mul_lt_mul_of_pos_right h hp⟩
  have e2 : a * 2 ^ e = b * 2 ^ e ↔ a = b := ⟨fun h => Int.eq_of_mul_eq_mul_right (by omega) h, fun h => by rw [h]⟩
  simp only [compare, compareOfLessAndEq, e1, e2]

theorem order_fl (a b : Int) (ha : Small a) (hb : Small b) : Ieee.double.order (fl a) (fl b) = some (compare a b) := by
  obtain ⟨s, M, P, e1, _, _, h1⟩ := rep_fl a ha
  obtain ⟨t, N, Q, e2, _, _, h2⟩ := rep_fl b hb
  unfold Ieee.Format.order
  rw [e1, e2]
  simp only [Ieee.Datum.order]
  rw [h1 _ (Int.min_le_left P Q), h2 _ (Int.min_le_right P Q), compare_scaled]

theorem log2_scaled {m : Nat} (h : m ≠ 0) (e : Nat) : (m * 2 ^ e).log2 = m.log2 + e := by
  have hb := log2_bounds h
  have hm : m * 2 ^ e ≠ 0 := Nat.mul_ne_zero h (Nat.ne_of_gt (Nat.two_pow_pos e))
  have h1 : 2 ^ (m.log2 + e) ≤ m * 2 ^ e := by rw [Nat.pow_add]; exact Nat.mul_le_mul_right _ hb.1
  have h2 : m * 2 ^ e < 2 ^ (m.log2 + e + 1) := by
    rw [show m.log2 + e + 1 = m.log2 + 1 + e from by omega, Nat.pow_add]; exact Nat.mul_lt_mul_of_pos_right hb.2 (Nat.two_pow_pos _)
  have h3 := (Nat.le_log2 hm).2 h1
  have h4 := (Nat.log2_lt hm).2 h2
  omega

theorem cut_even_exact (neg : Bool) (q d : Nat) (hq : q ≠ 0) : Ieee.Toward.even.cut neg (q * 2 ^ d) d = q := by
  unfold Ieee.Toward.cut
  rw [log2_scaled hq, Nat.min_eq_left (by omega), Nat.one_shiftLeft]
  have h1 : q * 2 ^ d / 2 ^ d = q := Nat.mul_div_cancel _ (Nat.two_pow_pos d)
  have h2 : q * 2 ^ d % 2 ^ d = 0 := Nat.mul_mod_left _ _
  have hp := Nat.two_pow_pos d
  simp only [h1, h2]
  have h3 : decide (2 ^ d < 2 * 0) = false := by simp
  have h4 : (2 ^ d == 2 * 0) = false := by rw [beq_eq_false_iff_ne]; omega
  rw [h3, h4]; rfl

theorem nearest_scaled (neg : Bool) (m e : Nat) (h0 : m ≠ 0) (h : m < 9007199254740992) : Ieee.double.nearest neg (m * 2 ^ e) (-(e : Int)) = Ieee.double.nearest neg m 0 := by
  have hl := log2_small h0 h
  have hm : m * 2 ^ e ≠ 0 := Nat.mul_ne_zero h0 (Nat.ne_of_gt (Nat.two_pow_pos e))
  unfold Ieee.Format.nearest
  rw [if_neg h0, if_neg hm, leastPlace_double, fraction_double, log2_scaled h0]
  have hlast : max ((0 : Int) + (m.log2 : Nat) - (52 : Nat)) (-1074) = (m.log2 : Int) - 52 := by omega
  have hlast2 : max (-(e : Int) + ((m.log2 + e : Nat) : Int) - (52 : Nat)) (-1074) = (m.log2 : Int) - 52 := by omega
  simp only [hlast, hlast2]
  have hk : Ieee.Toward.even.cut neg ((m * 2 ^ e) <<< (-(e : Int) - ((m.log2 : Int) - 52)).toNat) (((m.log2 : Int) - 52) - -(e : Int)).toNat = m * 2 ^ (52 - m.log2) := by
    rw [Nat.shiftLeft_eq]
    rcases Nat.lt_or_ge (52 - m.log2) e with h1 | h1
    · rw [show (-(e : Int) - ((m.log2 : Int) - 52)).toNat = 0 from by omega, show (((m.log2 : Int) - 52) - -(e : Int)).toNat = e - (52 - m.log2) from by omega, Nat.pow_zero, Nat.mul_one]
      have : m * 2 ^ e = m * 2 ^ (52 - m.log2) * 2 ^ (e - (52 - m.log2)) := by rw [Nat.mul_assoc, ← Nat.pow_add]; congr 2; omega
      rw [this]
      exact cut_even_exact _ _ _ (Nat.mul_ne_zero h0 (Nat.ne_of_gt (Nat.two_pow_pos _)))
    · rw [show (((m.log2 : Int) - 52) - -(e : Int)).toNat = 0 from by omega, cut_even_zero, show (-(e : Int) - ((m.log2 : Int) - 52)).toNat = 52 - m.log2 - e from by omega, Nat.mul_assoc, ← Nat.pow_add]
      congr 2; omega
  have hk2 : Ieee.Toward.even.cut neg (m <<< ((0 : Int) - ((m.log2 : Int) - 52)).toNat) (((m.log2 : Int) - 52) - 0).toNat = m * 2 ^ (52 - m.log2) := by
    rw [show (((m.log2 : Int) - 52) - 0).toNat = 0 from by omega, cut_even_zero, show ((0 : Int) - ((m.log2 : Int) - 52)).toNat = 52 - m.log2 from by omega, Nat.shiftLeft_eq]
  rw [hk, hk2]

theorem add_fl (a b : Int) (ha : Small a) (hb : Small b) (hc : Small (a + b)) : Ieee.double.add (fl a) (fl b) = some (fl (a + b)) := by
  obtain ⟨s, M, P, e1, p1, s1, h1⟩ := rep_fl a ha
  obtain ⟨t, N, Q, e2, p2, s2, h2⟩ := rep_fl b hb
  unfold Ieee.Format.add
  rw [e1, e2]
  simp only [Ieee.Datum.sum]
  have hbase : min P Q ≤ 0 := by omega
  rw [h1 _ (Int.min_le_left P Q), h2 _ (Int.min_le_right P Q)]
  obtain ⟨e, he⟩ : ∃ e : Nat, min P Q = -(e : Int) := ⟨(-(min P Q)).toNat, by omega⟩
  rw [he, show (-(-(e : Int))).toNat = e from by omega]
  have htot : a * 2 ^ e + b * 2 ^ e = (a + b) * 2 ^ e := by rw [Int.add_mul]
  rw [htot]
  have hp : (0 : Int) < 2 ^ e := Int.pow_pos (by omega)
  by_cases h0 : a + b = 0
  · rw [h0, Int.zero_mul, if_pos rfl, s1, s2]
    have : (decide (a < 0) && decide (b < 0)) = false := by
      by_cases h3 : a < 0
      · have : ¬ b < 0 := by omega
        simp [this]
      · simp [h3]
    rw [this, fl_eq]
    simp [Ieee.Format.nearest, Ieee.Format.write]
  · have hne : (a + b) * 2 ^ e ≠ 0 := Int.mul_ne_zero h0 (by omega)
    have hneg : decide ((a + b) * 2 ^ e < 0) = decide (a + b < 0) := by
      have : (a + b) * 2 ^ e < 0 ↔ a + b < 0 := by
        constructor
        · intro h; exact Int.lt_of_mul_lt_mul_right (by rw [Int.zero_mul]; exact h) (Int.le_of_lt hp)
        · intro h; have := Int.mul_lt_mul_of_pos_right h hp; rwa [Int.zero_mul] at this
      simp only [this]
    have hab : ((a + b) * 2 ^ e).natAbs = (a + b).natAbs * 2 ^ e := by rw [Int.natAbs_mul, Int.natAbs_pow]; rfl
    rw [if_neg hne, hneg, hab]
    show some (Ieee.double.nearest (decide (a + b < 0)) ((a + b).natAbs * 2 ^ e) (-(e : Int))) = _
    rw [nearest_scaled _ _ _ (by omega) hc]
    rfl

/-- The comparisons of floats that stand for whole numbers. -/
theorem eq_fl (a b : Int) (ha : Small a) (hb : Small b) : (FloatKind.f64.format.order (fl a) (fl b) == some .eq) = decide (a = b) := by
  rw [show FloatKind.f64.format = Ieee.double from rfl, order_fl a b ha hb]
  simp only [compare, compareOfLessAndEq]
  by_cases h1 : a < b
  · rw [if_pos h1]; have : ¬ a = b := by omega
    simp [this]
  · rw [if_neg h1]
    by_cases h2 : a = b
    · simp [h2]
    · simp [h2]

theorem le_fl (a b : Int) (ha : Small a) (hb : Small b) : (FloatKind.f64.format.order (fl a) (fl b) == some .lt || FloatKind.f64.format.order (fl a) (fl b) == some .eq) = decide (a ≤ b) := by
  rw [show FloatKind.f64.format = Ieee.double from rfl, order_fl a b ha hb]
  simp only [compare, compareOfLessAndEq]
  by_cases h1 : a < b
  · rw [if_pos h1]; have : a ≤ b := by omega
    simp [this]
  · rw [if_neg h1]
    by_cases h2 : a = b
    · simp [h2]
    · have : ¬ a ≤ b := by omega
      simp [h2, this]
theorem ge_fl (a b : Int) (ha : Small a) (hb : Small b) : (FloatKind.f64.format.order (fl a) (fl b) == some .gt || FloatKind.f64.format.order (fl a) (fl b) == some .eq) = decide (b ≤ a) := by
  rw [show FloatKind.f64.format = Ieee.double from rfl, order_fl a b ha hb]
  simp only [compare, compareOfLessAndEq]
  by_cases h1 : a < b
  · rw [if_pos h1]; have : ¬ b ≤ a := by omega
    simp [this]
  · rw [if_neg h1]
    by_cases h2 : a = b
    · simp [h2]
    · have : b ≤ a := by omega
      simp [h2, this]

end L

section
open L
variable {P : Program} (w : World)
theorem run_min_fl (ts : Array TypeId) (t : TypeId) (a b : Int) (ha : Small a) (hb : Small b) : (Builtin.min_ ts t #[.float .f64 (fl a), .float .f64 (fl b)]).run P w = .ok (.float .f64 (fl (min a b))) w := by
  have h := order_fl a b ha hb
  have hf : FloatKind.f64.format = Ieee.double := rfl
  simp only [Builtin.min_, List.foldlM_cons, List.foldlM_nil, Builtin.min2, hf, h]
  simp only [compare, compareOfLessAndEq]
  by_cases h1 : a < b
  · rw [if_pos h1, show min a b = a from by omega]; rfl
  · rw [if_neg h1]
    by_cases h2 : a = b
    · subst h2; rw [if_pos rfl, show min a a = a from by omega, ite_self]; rfl
    · rw [if_neg h2, show min a b = b from by omega]; rfl
theorem run_max_fl (ts : Array TypeId) (t : TypeId) (a b : Int) (ha : Small a) (hb : Small b) : (Builtin.max_ ts t #[.float .f64 (fl a), .float .f64 (fl b)]).run P w = .ok (.float .f64 (fl (max a b))) w := by
  have h := order_fl a b ha hb
  have hf : FloatKind.f64.format = Ieee.double := rfl
  simp only [Builtin.max_, List.foldlM_cons, List.foldlM_nil, Builtin.max2, hf, h]
  simp only [compare, compareOfLessAndEq]
  by_cases h1 : a < b
  · rw [if_pos h1, show max a b = b from by omega]; rfl
  · rw [if_neg h1]
    by_cases h2 : a = b
    · subst h2; rw [if_pos rfl, show max a a = a from by omega, ite_self]; rfl
    · rw [if_neg h2, show max a b = a from by omega]; rfl
end
section
open L
variable {P : Program} (w : World)
theorem run_add_complex_fl (t : TypeId) (a b c d : Int) (ha : Small a) (hb : Small b) (hc : Small c) (hd : Small d) (hac : Small (a + c)) (hbd : Small (b + d)) :
    (binOp .add t (.complex .f64 (fl a) (fl b)) (.complex .f64 (fl c) (fl d))).run P w = .ok (.complex .f64 (fl (a + c)) (fl (b + d))) w := by
  refine run_complex_sum (P := P) w .add (.inl rfl) t .f64 _ _ _ _ _ _ ?_
  have h1 := add_fl a c ha hc hac
  have h2 := add_fl b d hb hd hbd
  have hf : FloatKind.f64.format = Ieee.double := rfl
  simp [cSumBits, floatBits, hf, h1, h2]
end
end Go.Proofs.YtlpnbkfcbamnbaaDoor
