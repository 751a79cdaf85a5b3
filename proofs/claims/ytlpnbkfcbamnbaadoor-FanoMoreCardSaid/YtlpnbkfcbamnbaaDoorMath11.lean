/- Plain laws: a word's field, bit by bit. No program in sight. -/
import Derived.Test.YtlpnbkfcbamnbaaDoorMath10
import Derived.Test.YtlpnbkfcbamnbaaDoorMath7
set_option linter.unusedVariables false
set_option linter.unusedSimpArgs false
namespace Go.Proofs.YtlpnbkfcbamnbaaDoor.L

/-- Is the i-th bit of the field a 1? -/
def fbit (x : Nat) (p : Int) (i : Nat) : Bool := decide (-64 < p) && (decide (p < 64) && ibit x (p + i))
/-- What the reference has put together. -/
def fieldTo (x : Nat) (p : Int) : Nat → Nat
  | 0 => 0
  | k + 1 => if fbit x p k then fieldTo x p k ||| 2 ^ k else fieldTo x p k

theorem fieldTo_bit (x : Nat) (p : Int) (i : Nat) : ∀ k, (fieldTo x p k).testBit i = (decide (i < k) && fbit x p i)
  | 0 => by simp [fieldTo]
  | k + 1 => by
    simp only [fieldTo]
    by_cases h : fbit x p k = true
    · rw [if_pos h, Nat.testBit_or, fieldTo_bit x p i k, Nat.testBit_two_pow]
      by_cases h1 : i = k
      · subst h1; simp [h]
      · have e : decide (i < k + 1) = decide (i < k) := by rw [Bool.eq_iff_iff]; simp; omega
        rw [e]
        have : decide (k = i) = false := by simp; omega
        rw [this, Bool.or_false]
    · rw [if_neg h, fieldTo_bit x p i k]
      by_cases h1 : i = k
      · subst h1; simp [h]
      · have e : decide (i < k + 1) = decide (i < k) := by rw [Bool.eq_iff_iff]; simp; omega
        rw [e]
theorem fieldTo_lt (x : Nat) (p : Int) (k : Nat) : fieldTo x p k < 2 ^ k := by
  apply Nat.lt_pow_two_of_testBit
  intro i hi
  rw [fieldTo_bit]
  have : decide (i < k) = false := by simp; omega
  rw [this]; rfl
theorem ibit_far (x : Nat) (i : Int) (h : i < 0 ∨ 64 ≤ i) : ibit x i = false := by
  unfold ibit
  rcases h with h | h
  · have : decide (0 ≤ i) = false := by simp; omega
    rw [this]; rfl
  · have : decide (i < 64) = false := by simp; omega
    rw [this]; simp
theorem ibit_in (x : Nat) (i : Int) (h0 : 0 ≤ i) (h : i < 64) : ibit x i = x.testBit i.toNat := by
  unfold ibit
  have h1 : decide (0 ≤ i) = true := by simp; omega
  have h2 : decide (i < 64) = true := by simp; omega
  rw [h1, h2]; rfl
theorem high_bit (x i : Nat) (hx : x < 18446744073709551616) (h : 64 ≤ i) : x.testBit i = false := by
  apply Nat.testBit_lt_two_pow
  have : (2 : Nat) ^ 64 ≤ 2 ^ i := Nat.pow_le_pow_right (by omega) h
  have e : (18446744073709551616 : Nat) = 2 ^ 64 := by decide
  omega
theorem fieldN_eq (x : Nat) (p n : Int) (hx : x < 18446744073709551616) : fieldTo x p (clampN n) = fieldN x p n := by
  apply Nat.eq_of_testBit_eq
  intro i
  rw [fieldTo_bit]
  have hc := clampN_le n
  unfold fieldN
  by_cases h : n < 1 ∨ 64 ≤ p ∨ p ≤ -64
  · rw [if_pos h, Nat.zero_testBit]
    rcases h with h | h | h
    · have : clampN n = 0 := by unfold clampN; omega
      rw [this]; simp
    · have : decide (p < 64) = false := by simp; omega
      unfold fbit; rw [this]; simp
    · have : decide (-64 < p) = false := by simp; omega
      unfold fbit; rw [this]; simp
  · rw [if_neg h]
    have h1 : decide (-64 < p) = true := by simp; omega
    have h2 : decide (p < 64) = true := by simp; omega
    unfold fbit
    rw [h1, h2, Bool.true_and, Bool.true_and]
    by_cases hp : p < 0
    · rw [if_pos hp, Nat.testBit_mod_two_pow]
      by_cases hi : i < clampN n
      · have e64 : (18446744073709551616 : Nat) = 2 ^ 64 := by decide
        rw [e64, Nat.testBit_mod_two_pow, Nat.testBit_mul_two_pow]
        have hi64 : decide (i < 64) = true := by simp; omega
        rw [hi64, Bool.true_and]
        by_cases hq : (-p).toNat ≤ i
        · have d1 : decide ((-p).toNat ≤ i) = true := by simpa using hq
          rw [d1, Bool.true_and, ibit_in x _ (by omega) (by omega)]
          have : (p + (i : Int)).toNat = i - (-p).toNat := by omega
          rw [this]
        · have d1 : decide ((-p).toNat ≤ i) = false := by simpa using hq
          rw [d1, Bool.false_and, ibit_far x _ (by omega)]
      · have d1 : decide (i < clampN n) = false := by simpa using hi
        rw [d1]; rfl
    · rw [if_neg hp, Nat.testBit_mod_two_pow, Nat.testBit_div_two_pow]
      by_cases h64 : p + (i : Int) < 64
      · rw [ibit_in x _ (by omega) h64]
        have : (p + (i : Int)).toNat = i + p.toNat := by omega
        rw [this]
      · rw [ibit_far x _ (by omega), high_bit x _ hx (by omega)]

end Go.Proofs.YtlpnbkfcbamnbaaDoor.L
