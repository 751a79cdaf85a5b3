/- Plain laws: where a word's k-th 1 is; the lowest 1 of a word. No program in sight. -/
import Derived.Test.YtlpnbkfcbamnbaaDoorMath2
import Derived.Lib.TrailingZeros
set_option linter.unusedVariables false
set_option linter.unusedSimpArgs false
namespace Go.Proofs.YtlpnbkfcbamnbaaDoor.L

/-- The first of n places that is a 1 ahead of which k others are; 64. -/
def selTo (x : Nat) (k : Int) : Nat → Nat
  | 0 => 64
  | n + 1 => if selTo x k n < 64 then selTo x k n else if x.testBit n ∧ (onesTo x n : Int) = k then n else 64
def selN (x : Nat) (k : Int) : Nat := selTo x k 64

theorem onesTo_step (x p q : Nat) (h : p < q) (hp : x.testBit p = true) : onesTo x p < onesTo x q := by
  have h1 : onesTo x (p + 1) = onesTo x p + 1 := by simp [onesTo, hp]
  have h2 := onesTo_mono x (show p + 1 ≤ q by omega)
  omega
theorem sel_unique (x p q : Nat) (hp : x.testBit p = true) (hq : x.testBit q = true) (h : onesTo x p = onesTo x q) : p = q := by
  rcases Nat.lt_trichotomy p q with h1 | h1 | h1
  · have := onesTo_step x p q h1 hp; omega
  · exact h1
  · have := onesTo_step x q p h1 hq; omega
theorem selTo_eq (x p : Nat) (k : Int) (hp : x.testBit p = true) (hk : (onesTo x p : Int) = k) (h64 : p < 64) : ∀ n, selTo x k n = if p < n then p else 64
  | 0 => by simp [selTo]
  | n + 1 => by
    simp only [selTo]
    rw [selTo_eq x p k hp hk h64 n]
    by_cases h1 : p < n
    · rw [if_pos h1, if_pos h64, if_pos (by omega)]
    · rw [if_neg h1, if_neg (show ¬ ((64 : Nat) < 64) by omega)]
      by_cases h2 : p = n
      · subst h2; rw [if_pos ⟨hp, hk⟩, if_pos (show p < p + 1 by omega)]
      · rw [if_neg (show ¬ (p < n + 1) by omega), if_neg]
        intro ⟨h3, h4⟩
        exact h2 (sel_unique x p n hp h3 (by omega))
theorem selN_eq (x p : Nat) (k : Int) (hp : x.testBit p = true) (hk : (onesTo x p : Int) = k) (h64 : p < 64) : selN x k = p := by
  unfold selN; rw [selTo_eq x p k hp hk h64, if_pos h64]
theorem selTo_none (x : Nat) (k : Int) : ∀ n, (k < 0 ∨ (onesTo x n : Int) ≤ k) → selTo x k n = 64
  | 0, _ => rfl
  | n + 1, h => by
    have hm := onesTo_mono x (show n ≤ n + 1 by omega)
    simp only [selTo]
    rw [selTo_none x k n (by omega), if_neg (by omega), if_neg]
    intro ⟨h1, h2⟩
    have : onesTo x (n + 1) = onesTo x n + 1 := by simp [onesTo, h1]
    omega
theorem selN_none (x : Nat) (k : Int) (h : k < 0 ∨ (onesTo x 64 : Int) ≤ k) : selN x k = 64 := selTo_none x k 64 h
theorem sel_exists (x k : Nat) : ∀ n, k < onesTo x n → ∃ p, p < n ∧ x.testBit p = true ∧ onesTo x p = k
  | 0, h => by simp [onesTo] at h
  | n + 1, h => by
    by_cases h1 : k < onesTo x n
    · obtain ⟨p, hp, h2⟩ := sel_exists x k n h1
      exact ⟨p, by omega, h2⟩
    · simp only [onesTo] at h
      have hb : x.testBit n = true := by
        cases hb : x.testBit n
        · rw [hb] at h; simp at h; omega
        · rfl
      rw [hb] at h
      simp at h
      exact ⟨n, by omega, hb, by omega⟩
theorem selN_le (x : Nat) (k : Int) : selN x k ≤ 64 := by
  by_cases h : k < 0 ∨ (onesTo x 64 : Int) ≤ k
  · rw [selN_none x k h]; omega
  · obtain ⟨p, hp, h1, h2⟩ := sel_exists x k.toNat 64 (by omega)
    rw [selN_eq x p k h1 (by omega) hp]; omega

/-- Eight bits on. -/
theorem octet_on (w P : Nat) (hb : w.testBit P = true) (h : onesTo w 8 ≤ onesTo w P) : 8 ≤ P ∧ (w / 256).testBit (P - 8) = true ∧ onesTo (w / 256) (P - 8) = onesTo w P - onesTo w 8 := by
  have h8 : 8 ≤ P := by
    rcases Nat.lt_or_ge P 8 with h1 | h1
    · have := onesTo_step w P 8 h1 hb; omega
    · exact h1
  refine ⟨h8, ?_, ?_⟩
  · rw [show (256 : Nat) = 2 ^ 8 from rfl, Nat.testBit_div_two_pow, show P - 8 + 8 = P from by omega]; exact hb
  · have := onesTo_add w 8 (P - 8)
    rw [show 8 + (P - 8) = P from by omega] at this
    rw [show (256 : Nat) = 2 ^ 8 from rfl]; omega
theorem onesTo_zero_bits (w n : Nat) (h : onesTo w n = 0) (i : Nat) (hi : i < n) : w.testBit i = false := by
  cases hb : w.testBit i
  · rfl
  · have := onesTo_step w i n hi hb; omega

/-- The lowest 1. -/
theorem low_split (w : Nat) (h0 : w ≠ 0) (hw : w < 18446744073709551616) : ∃ c m, Lib.ctz 64 w = c ∧ c < 64 ∧ w = 2 ^ c * (2 * m + 1) := by
  obtain ⟨m, hm, hk⟩ := Lib.ctzFrom_spec 64 w (by omega) hw
  exact ⟨_, m, by simp [Lib.ctz, h0], hk, hm⟩
theorem low_bit (c m i : Nat) : (2 ^ c * (2 * m + 1)).testBit i = (decide (c ≤ i) && (2 * m + 1).testBit (i - c)) := by
  rw [Nat.mul_comm, Nat.testBit_mul_two_pow]
theorem low_ones (w : Nat) (h0 : w ≠ 0) (hw : w < 18446744073709551616) : w.testBit (Lib.ctz 64 w) = true ∧ onesTo w (Lib.ctz 64 w) = 0 := by
  obtain ⟨c, m, hc, _, rfl⟩ := low_split w h0 hw
  rw [hc]
  constructor
  · rw [low_bit]; simp [Nat.testBit_zero]
  · have : ∀ n, n ≤ c → onesTo (2 ^ c * (2 * m + 1)) n = 0 := by
      intro n
      induction n with
      | zero => intro _; rfl
      | succ n ih =>
        intro h
        have e : (2 ^ c * (2 * m + 1)).testBit n = false := by
          rw [low_bit]
          have : decide (c ≤ n) = false := by rw [decide_eq_false_iff_not]; omega
          rw [this]; rfl
        simp only [onesTo]
        rw [ih (by omega), e]; rfl
    exact this c (Nat.le_refl _)
theorem low_first (w P : Nat) (hw : w < 18446744073709551616) (hb : w.testBit P = true) (h : onesTo w P = 0) : Lib.ctz 64 w = P := by
  have h0 : w ≠ 0 := by intro e; subst e; simp at hb
  have h1 := low_ones w h0 hw
  exact sel_unique w _ _ h1.1 hb (by omega)
/-- Without the lowest 1. -/
theorem low_cut (w : Nat) (h0 : w ≠ 0) (hw : w < 18446744073709551616) (i : Nat) : (w &&& (w - 1)).testBit i = (w.testBit i && decide (i ≠ Lib.ctz 64 w)) := by
  obtain ⟨c, m, hc, _, rfl⟩ := low_split w h0 hw
  have hp := Nat.two_pow_pos c
  have e : 2 ^ c * (2 * m + 1) - 1 = 2 ^ c * (2 * m) + (2 ^ c - 1) := by rw [Nat.mul_add, Nat.mul_one]; omega
  have hdv : (2 ^ c * (2 * m) + (2 ^ c - 1)) / 2 ^ c = 2 * m := by rw [Nat.mul_add_div hp, Nat.div_eq_of_lt (show 2 ^ c - 1 < 2 ^ c by omega), Nat.add_zero]
  rw [hc, e, Nat.testBit_and, low_bit]
  by_cases h : c ≤ i
  · have h1 : (2 ^ c * (2 * m) + (2 ^ c - 1)).testBit i = (2 * m).testBit (i - c) := by
      obtain ⟨j, rfl⟩ : ∃ j, i = c + j := ⟨i - c, by omega⟩
      rw [show c + j - c = j from by omega, Nat.testBit_eq_decide_div_mod_eq, Nat.testBit_eq_decide_div_mod_eq, Nat.pow_add, ← Nat.div_div_eq_div_mul, hdv]
    rw [h1]
    obtain ⟨j, rfl⟩ : ∃ j, i = c + j := ⟨i - c, by omega⟩
    rw [show c + j - c = j from by omega]
    cases j with
    | zero => simp
    | succ j =>
      have d1 : (2 * m + 1) / 2 = m := by omega
      have d2 : 2 * m / 2 = m := by omega
      rw [Nat.testBit_succ, Nat.testBit_succ, d1, d2]
      have : decide (c + (j + 1) ≠ c) = true := by simp
      rw [this]; simp
  · have : decide (c ≤ i) = false := by rw [decide_eq_false_iff_not]; exact h
    rw [this]; simp
theorem low_on (w P : Nat) (hw : w < 18446744073709551616) (hb : w.testBit P = true) (h : 0 < onesTo w P) : (w &&& (w - 1)).testBit P = true ∧ onesTo (w &&& (w - 1)) P = onesTo w P - 1 ∧ Lib.ctz 64 w < P := by
  have h0 : w ≠ 0 := by intro e; subst e; simp at hb
  have h1 := low_ones w h0 hw
  have hc := low_cut w h0 hw
  have hcP : Lib.ctz 64 w < P := by
    rcases Nat.lt_or_ge (Lib.ctz 64 w) P with h2 | h2
    · exact h2
    · have := onesTo_mono w h2; omega
  generalize Lib.ctz 64 w = c at *
  refine ⟨by rw [hc, hb]; simp; omega, ?_, hcP⟩
  have key : ∀ n, onesTo (w &&& (w - 1)) n = if c < n then onesTo w n - 1 else onesTo w n := by
    intro n
    induction n with
    | zero => simp [onesTo]
    | succ n ih =>
      simp only [onesTo]
      rw [ih, hc]
      by_cases h2 : c < n
      · have h3 := onesTo_step w c n h2 h1.1
        rw [if_pos h2, if_pos (by omega)]
        have : decide (n ≠ c) = true := by simp; omega
        rw [this, Bool.and_true]; omega
      · rw [if_neg h2]
        by_cases h3 : n = c
        · subst h3
          rw [if_pos (by omega), h1.1]; simp
        · rw [if_neg (by omega)]
          have : decide (n ≠ c) = true := by simp; omega
          rw [this, Bool.and_true]
  rw [key, if_pos hcP]

end Go.Proofs.YtlpnbkfcbamnbaaDoor.L
