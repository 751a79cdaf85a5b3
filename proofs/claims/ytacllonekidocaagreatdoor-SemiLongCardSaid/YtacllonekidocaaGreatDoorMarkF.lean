/- Plain laws: what an index takes is within its bound. No program in sight. -/
import Derived.Test.YtacllonekidocaaGreatDoorSemiC
set_option linter.unusedVariables false
set_option linter.unusedSimpArgs false
namespace Go.Proofs.YtacllonekidocaaGreatDoor
open Go.RowKit L

theorem L.wd_low (n B : Nat) (h0 : 0 < n) (hB : B < 18446744073709551616) : B / 2 ^ wd n B < 2 * n ∧ (wd n B = 0 ∨ n * 2 ^ wd n B ≤ B) := by
  unfold wd
  split
  · rename_i h
    rw [Nat.pow_zero, Nat.div_one]; exact ⟨by omega, Or.inl rfl⟩
  · rename_i h
    have hq : 2 ≤ B / n := (Nat.le_div_iff_mul_le h0).2 (by omega)
    have hs := need_spec (B / n) (Nat.lt_of_le_of_lt (Nat.div_le_self _ _) hB)
    have hn : need (B / n) ≠ 0 := fun e => by rw [e] at hs; have := hs.1; simp at this; omega
    have hs2 := hs.2.1 hn
    obtain ⟨k, hk⟩ : ∃ k, need (B / n) = k + 1 := ⟨need (B / n) - 1, by omega⟩
    have h1 := hs.1
    clear hs hn
    rw [hk] at h1
    rw [hk, Nat.add_sub_cancel] at hs2
    rw [hk, Nat.add_sub_cancel]
    constructor
    · rw [Nat.div_lt_iff_lt_mul (Nat.two_pow_pos _)]
      have h2 : B < n * 2 ^ (k + 1) := by
        have := (Nat.div_lt_iff_lt_mul h0).1 h1
        rw [Nat.mul_comm] at this; exact this
      rw [Nat.pow_succ] at h2
      calc B < n * (2 ^ k * 2) := h2
        _ = 2 * n * 2 ^ k := by rw [Nat.mul_comm (2 ^ k) 2, ← Nat.mul_assoc, Nat.mul_comm n 2]
    · right
      have := (Nat.le_div_iff_mul_le h0).1 hs2
      rw [Nat.mul_comm]; exact this
theorem L.wd_least (m n w : Nat) (hm : 0 < m) (hn : 0 < n) (hB : n < 18446744073709551616) (hw : n ≤ m * 2 ^ w) : wd m n ≤ w := by
  rcases (wd_low m n hm hB).2 with h | h
  · omega
  · refine Classical.byContradiction fun hc => ?_
    have h1 : 2 ^ (w + 1) ≤ 2 ^ wd m n := Nat.pow_le_pow_right (by omega) (by omega)
    have h2 : m * 2 ^ (w + 1) ≤ m * 2 ^ wd m n := Nat.mul_le_mul_left m h1
    rw [Nat.pow_succ, ← Nat.mul_assoc] at h2
    omega
/-- The bound of an index's size. -/
def L.bits14 (m w : Nat) : Nat := 4 * m + m * w + 10 * m + 8192
theorem L.sz_within (m n w z : Nat) (hm : 0 < m) (hn : 0 < n) (hB : n < 18446744073709551616) (hw : n ≤ m * 2 ^ w) (hz : z = m * wd m n + (m + ((n - 1) / 2 ^ wd m n + 1)) + 2 * m + (m + ((n - 1) / 2 ^ wd m n + 1)) / 2 + 512 + 3 * (2 * m) + 2560) : z ≤ bits14 m w := by
  have h1 := (wd_low m n hm hB).1
  have h2 : (n - 1) / 2 ^ wd m n ≤ n / 2 ^ wd m n := Nat.div_le_div_right (by omega)
  have h3 : m * wd m n ≤ m * w := Nat.mul_le_mul_left m (wd_least m n w hm hn hB hw)
  unfold bits14
  omega
end Go.Proofs.YtacllonekidocaaGreatDoor
