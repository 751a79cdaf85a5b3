/- Floats that stand for whole numbers become whole numbers. No program in sight. -/
import Derived.Test.YtacllonekidocaaGreatDoorWordP
import Derived.Laws.FloatArith
set_option linter.unusedVariables false
set_option linter.unusedSimpArgs false
namespace Go.Proofs.YtacllonekidocaaGreatDoor.L
open Go

theorem cut_zero_exact (q d : Nat) : Ieee.Toward.zero.cut false (q * 2 ^ d) d = q := by
  unfold Ieee.Toward.cut
  simp only [Bool.toNat_false, Nat.add_zero]
  rcases Nat.eq_zero_or_pos q with rfl | hq
  · simp
  · have hl := log2_scaled (m := q) (by omega) d
    rw [hl, Nat.min_eq_left (by omega), Nat.one_shiftLeft]
    exact Nat.mul_div_cancel _ (Nat.two_pow_pos d)
theorem toInt_fl (n : Nat) (h : Small (n : Int)) (hb : n < 9223372036854775808) : floatToIntVal .f64 (fl (n : Int)) .i64 = some (n : Int) := by
  obtain ⟨s, M, P, hd, hP, hs, hM⟩ := rep_fl (n : Int) h
  have hs0 : s = false := by rw [hs]; simp
  subst hs0
  have h0 := hM P (Int.le_refl _)
  rw [Int.sub_self] at h0
  have h1 : Ieee.signed false M 0 = (M : Int) := by unfold Ieee.signed; simp
  have h2 : M = n * 2 ^ (-P).toNat := by
    have h3 : (M : Int) = (n : Int) * 2 ^ (-P).toNat := by rw [← h1]; exact h0
    have h4 : ((n * 2 ^ (-P).toNat : Nat) : Int) = (n : Int) * 2 ^ (-P).toNat := by simp
    omega
  have hdec : FloatKind.f64.decode (fl (n : Int)) = Ieee.Datum.number false M P := hd
  unfold floatToIntVal
  rw [hdec]
  have hp0 : P.toNat = 0 := by omega
  have hi : (Ieee.Datum.number false M P).toInt .zero = some (n : Int) := by
    unfold Ieee.Datum.toInt Ieee.Datum.integral
    simp only [hp0, Nat.shiftLeft_zero]
    rw [h2, cut_zero_exact]
    unfold Ieee.signed; simp
  rw [hi]
  have hm : IntKind.i64.min ≤ (n : Int) ∧ (n : Int) ≤ IntKind.i64.max := by
    have e1 : IntKind.i64.min = -9223372036854775808 := by decide
    have e2 : IntKind.i64.max = 9223372036854775807 := by decide
    rw [e1, e2]; omega
  show (if IntKind.i64.min ≤ (n : Int) ∧ (n : Int) ≤ IntKind.i64.max then some (n : Int) else none) = _
  rw [if_pos hm]
end Go.Proofs.YtacllonekidocaaGreatDoor.L
