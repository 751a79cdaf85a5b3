/- Plain laws: the steps of math/bits.Reverse64; bits of a word turned round. No program in sight. -/
import Derived.Test.YtdhokioiloggeaaDoorMath7
set_option linter.unusedVariables false
set_option linter.unusedSimpArgs false
namespace Go.Proofs.YtdhokioiloggeaaDoor.L

/-- One step: neighbours of k bits change places. -/
def swp (k M x : Nat) : Nat := (x / 2 ^ k &&& M) ||| ((x &&& M) * 2 ^ k % 18446744073709551616)
def xk (k i : Nat) : Nat := if i / k % 2 = 0 then i + k else i - k

theorem swp_lt (k M x : Nat) (hM : M < 18446744073709551616) : swp k M x < 18446744073709551616 := by
  have h : (18446744073709551616 : Nat) = 2 ^ 64 := by decide
  unfold swp
  rw [h] at *
  exact Nat.or_lt_two_pow (Nat.lt_of_le_of_lt Nat.and_le_right hM) (Nat.mod_lt _ (by decide))

theorem swp_bit (k M x i : Nat) (hi : i < 64) (hk : 0 < k) (hx : x < 18446744073709551616) (hM : ∀ j, j < 64 → M.testBit j = decide (j / k % 2 = 0)) (hin : i / k % 2 = 0 → i + k < 64) (hout : i / k % 2 ≠ 0 → k ≤ i ∧ (i - k) / k % 2 = 0) :
    (swp k M x).testBit i = x.testBit (xk k i) := by
  have h : (18446744073709551616 : Nat) = 2 ^ 64 := by decide
  unfold swp xk
  rw [h, Nat.testBit_or, Nat.testBit_and, Nat.testBit_div_two_pow, Nat.testBit_mod_two_pow, Nat.testBit_mul_two_pow, Nat.testBit_and, hM i hi]
  have h64 : decide (i < 64) = true := by simpa using hi
  rw [h64]
  by_cases h0 : i / k % 2 = 0
  · rw [if_pos h0]
    by_cases hki : k ≤ i
    · rw [hM (i - k) (by omega)]
      have h1 : ¬ ((i - k) / k % 2 = 0) := by
        obtain ⟨q, hq⟩ : ∃ q, i / k = q + 1 := ⟨i / k - 1, by have := Nat.div_pos hki hk; omega⟩
        have h2 : (i - k) / k = i / k - 1 := by have := Nat.sub_mul_div i k 1; rwa [Nat.mul_one] at this
        omega
      simp [h0, h1]
    · simp [h0, hki]
  · rw [if_neg h0]
    have h1 := hout h0
    rw [hM (i - k) (by omega)]
    simp [h0, h1.1, h1.2]


def m1 : Nat := 6148914691236517205
def m2 : Nat := 3689348814741910323
def m4 : Nat := 1085102592571150095
def m8 : Nat := 71777214294589695
def m16 : Nat := 281470681808895
def m32 : Nat := 4294967295
theorem mk1 : ∀ j, j < 64 → m1.testBit j = decide (j / 1 % 2 = 0) := by decide +kernel
theorem mk2 : ∀ j, j < 64 → m2.testBit j = decide (j / 2 % 2 = 0) := by decide +kernel
theorem mk4 : ∀ j, j < 64 → m4.testBit j = decide (j / 4 % 2 = 0) := by decide +kernel
theorem mk8 : ∀ j, j < 64 → m8.testBit j = decide (j / 8 % 2 = 0) := by decide +kernel
theorem mk16 : ∀ j, j < 64 → m16.testBit j = decide (j / 16 % 2 = 0) := by decide +kernel
theorem mk32 : ∀ j, j < 64 → m32.testBit j = decide (j / 32 % 2 = 0) := by decide +kernel
theorem xk_ok (k : Nat) (hk : k = 1 ∨ k = 2 ∨ k = 4 ∨ k = 8 ∨ k = 16 ∨ k = 32) : ∀ i, i < 64 → xk k i < 64 ∧ (i / k % 2 = 0 → i + k < 64) ∧ (i / k % 2 ≠ 0 → k ≤ i ∧ (i - k) / k % 2 = 0) := by
  rcases hk with rfl | rfl | rfl | rfl | rfl | rfl <;> decide +kernel
theorem xk_all : ∀ i, i < 64 → xk 1 (xk 2 (xk 4 (xk 8 (xk 16 (xk 32 i))))) = 63 - i := by decide +kernel
/-- What math/bits.Reverse64 returns. -/
def rev64 (x : Nat) : Nat := swp 32 m32 (swp 16 m16 (swp 8 m8 (swp 4 m4 (swp 2 m2 (swp 1 m1 x)))))
theorem rev64_bit (x i : Nat) (hx : x < 18446744073709551616) (hi : i < 64) : (rev64 x).testBit i = x.testBit (63 - i) := by
  unfold rev64
  have a1 := swp_lt 1 m1 x (by decide)
  have a2 := swp_lt 2 m2 (swp 1 m1 x) (by decide)
  have a3 := swp_lt 4 m4 (swp 2 m2 (swp 1 m1 x)) (by decide)
  have a4 := swp_lt 8 m8 (swp 4 m4 (swp 2 m2 (swp 1 m1 x))) (by decide)
  have a5 := swp_lt 16 m16 (swp 8 m8 (swp 4 m4 (swp 2 m2 (swp 1 m1 x)))) (by decide)
  have b6 := xk_ok 32 (by simp) i hi
  have b5 := xk_ok 16 (by simp) _ b6.1
  have b4 := xk_ok 8 (by simp) _ b5.1
  have b3 := xk_ok 4 (by simp) _ b4.1
  have b2 := xk_ok 2 (by simp) _ b3.1
  have b1 := xk_ok 1 (by simp) _ b2.1
  rw [swp_bit 32 m32 _ i hi (by omega) a5 mk32 b6.2.1 b6.2.2, swp_bit 16 m16 _ _ b6.1 (by omega) a4 mk16 b5.2.1 b5.2.2, swp_bit 8 m8 _ _ b5.1 (by omega) a3 mk8 b4.2.1 b4.2.2, swp_bit 4 m4 _ _ b4.1 (by omega) a2 mk4 b3.2.1 b3.2.2,
    swp_bit 2 m2 _ _ b3.1 (by omega) a1 mk2 b2.2.1 b2.2.2, swp_bit 1 m1 _ _ b2.1 (by omega) hx mk1 b1.2.1 b1.2.2, xk_all i hi]
theorem rev64_lt (x : Nat) : rev64 x < 18446744073709551616 := swp_lt _ _ _ (by decide)

end Go.Proofs.YtdhokioiloggeaaDoor.L
