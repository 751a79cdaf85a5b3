/- Plain laws: the excess of some bits, its least and its greatest, where it is first so great. No program in sight. -/
import Derived.Test.YtlpnbkfcbamnbaaDoorMath6
set_option linter.unusedVariables false
set_option linter.unusedSimpArgs false
namespace Go.Proofs.YtlpnbkfcbamnbaaDoor.L

/-- What a bit adds to the excess. -/
def sgn (b : Bool) : Int := if b then 1 else -1
/-- The excess of the first n bits. -/
def ex (f : Nat → Bool) : Nat → Int
  | 0 => 0
  | n + 1 => ex f n + sgn (f n)
/-- The least excess of the first 1, .., n bits; 0 where n is 0. -/
def lo (f : Nat → Bool) : Nat → Int
  | 0 => 0
  | n + 1 => if n = 0 then ex f 1 else min (lo f n) (ex f (n + 1))
def hi (f : Nat → Bool) : Nat → Int
  | 0 => 0
  | n + 1 => if n = 0 then ex f 1 else max (hi f n) (ex f (n + 1))
/-- The first number of bits, of 1, .., n, whose excess is d; 0 where there is none. -/
def fnd (f : Nat → Bool) (d : Int) : Nat → Nat
  | 0 => 0
  | n + 1 => if fnd f d n ≠ 0 then fnd f d n else if ex f (n + 1) = d then n + 1 else 0
/-- The bits behind the first a. -/
def sh (f : Nat → Bool) (a : Nat) : Nat → Bool := fun i => f (a + i)

theorem sgn_abs (b : Bool) : -1 ≤ sgn b ∧ sgn b ≤ 1 := by cases b <;> simp [sgn]
theorem ex_abs (f : Nat → Bool) (n : Nat) : -(n : Int) ≤ ex f n ∧ ex f n ≤ n := by
  induction n with
  | zero => simp [ex]
  | succ n ih => have := sgn_abs (f n); simp only [ex]; omega
theorem ex_congr {f g : Nat → Bool} (n : Nat) (h : ∀ i, i < n → f i = g i) : ex f n = ex g n := by
  induction n with
  | zero => rfl
  | succ n ih => simp only [ex]; rw [ih (fun i hi => h i (by omega)), h n (by omega)]
theorem lo_congr {f g : Nat → Bool} (n : Nat) (h : ∀ i, i < n → f i = g i) : lo f n = lo g n := by
  induction n with
  | zero => rfl
  | succ n ih =>
    simp only [lo]
    rw [ih (fun i hi => h i (by omega)), ex_congr (n + 1) h, ex_congr (f := f) (g := g) 1 (fun i hi => h i (by omega))]
theorem hi_congr {f g : Nat → Bool} (n : Nat) (h : ∀ i, i < n → f i = g i) : hi f n = hi g n := by
  induction n with
  | zero => rfl
  | succ n ih =>
    simp only [hi]
    rw [ih (fun i hi => h i (by omega)), ex_congr (n + 1) h, ex_congr (f := f) (g := g) 1 (fun i hi => h i (by omega))]
theorem fnd_congr {f g : Nat → Bool} (d : Int) (n : Nat) (h : ∀ i, i < n → f i = g i) : fnd f d n = fnd g d n := by
  induction n with
  | zero => rfl
  | succ n ih => simp only [fnd]; rw [ih (fun i hi => h i (by omega)), ex_congr (n + 1) h]
theorem ex_add (f : Nat → Bool) (a b : Nat) : ex f (a + b) = ex f a + ex (sh f a) b := by
  induction b with
  | zero => simp [ex]
  | succ b ih => rw [← Nat.add_assoc]; simp only [ex]; rw [ih]; simp only [sh]; omega
theorem lo_bound (f : Nat → Bool) (n : Nat) : -(n : Int) ≤ lo f n ∧ lo f n ≤ n := by
  induction n with
  | zero => simp [lo]
  | succ n ih =>
    have h1 := ex_abs f (n + 1)
    have h2 := ex_abs f 1
    simp only [lo]
    split <;> omega
theorem hi_bound (f : Nat → Bool) (n : Nat) : -(n : Int) ≤ hi f n ∧ hi f n ≤ n := by
  induction n with
  | zero => simp [hi]
  | succ n ih =>
    have h1 := ex_abs f (n + 1)
    have h2 := ex_abs f 1
    simp only [hi]
    split <;> omega
theorem lo_add (f : Nat → Bool) (a b : Nat) (ha : 0 < a) (hb : 0 < b) : lo f (a + b) = min (lo f a) (lo (sh f a) b + ex f a) := by
  induction b with
  | zero => omega
  | succ b ih =>
    rw [← Nat.add_assoc]
    simp only [lo]
    rw [if_neg (by omega)]
    by_cases h0 : b = 0
    · subst h0; rw [if_pos rfl]; simp only [Nat.add_zero, lo]
      have := ex_add f a 1
      rw [this]; omega
    · rw [if_neg h0, ih (by omega), Nat.add_assoc, ex_add f a (b + 1)]; omega
theorem hi_add (f : Nat → Bool) (a b : Nat) (ha : 0 < a) (hb : 0 < b) : hi f (a + b) = max (hi f a) (hi (sh f a) b + ex f a) := by
  induction b with
  | zero => omega
  | succ b ih =>
    rw [← Nat.add_assoc]
    simp only [hi]
    rw [if_neg (by omega)]
    by_cases h0 : b = 0
    · subst h0; rw [if_pos rfl]; simp only [Nat.add_zero, hi]
      have := ex_add f a 1
      rw [this]; omega
    · rw [if_neg h0, ih (by omega), Nat.add_assoc, ex_add f a (b + 1)]; omega
theorem fnd_le (f : Nat → Bool) (d : Int) (n : Nat) : fnd f d n ≤ n := by
  induction n with
  | zero => simp [fnd]
  | succ n ih =>
    simp only [fnd]
    split
    · omega
    · split <;> omega
theorem fnd_ex (f : Nat → Bool) (d : Int) (n : Nat) (h : fnd f d n ≠ 0) : ex f (fnd f d n) = d := by
  induction n with
  | zero => simp [fnd] at h
  | succ n ih =>
    simp only [fnd] at h ⊢
    by_cases h1 : fnd f d n ≠ 0
    · rw [if_pos h1]; exact ih h1
    · rw [if_neg h1] at h ⊢
      by_cases h2 : ex f (n + 1) = d
      · rw [if_pos h2]; exact h2
      · rw [if_neg h2] at h; exact absurd rfl h
theorem fnd_none (f : Nat → Bool) (d : Int) (n : Nat) : fnd f d n = 0 ↔ ∀ k, 0 < k → k ≤ n → ex f k ≠ d := by
  induction n with
  | zero => simp only [fnd, true_iff]; intro k h1 h2; omega
  | succ n ih =>
    simp only [fnd]
    by_cases h1 : fnd f d n ≠ 0
    · rw [if_pos h1]
      constructor
      · intro h; exact absurd h h1
      · intro h; exact absurd (fnd_ex f d n h1) (h _ (by omega) (by have := fnd_le f d n; omega))
    · rw [if_neg h1]
      have h1' : fnd f d n = 0 := by omega
      have h3 := ih.1 h1'
      by_cases h2 : ex f (n + 1) = d
      · rw [if_pos h2]
        constructor
        · intro h; omega
        · intro h; exact absurd h2 (h _ (by omega) (by omega))
      · rw [if_neg h2]
        simp only [true_iff]
        intro k hk1 hk2
        rcases Nat.lt_or_ge n k with h4 | h4
        · have : k = n + 1 := by omega
          subst this; exact h2
        · exact h3 k hk1 h4
theorem fnd_far (f : Nat → Bool) (d : Int) (n : Nat) (h : d < -(n : Int) ∨ (n : Int) < d) : fnd f d n = 0 := by
  rw [fnd_none]
  intro k h1 h2
  have := ex_abs f k
  omega
theorem fnd_keep (f : Nat → Bool) (d : Int) (a b : Nat) (h : fnd f d a ≠ 0) : fnd f d (a + b) = fnd f d a := by
  induction b with
  | zero => rfl
  | succ b ih => rw [← Nat.add_assoc]; simp only [fnd]; rw [ih, if_pos h]
theorem fnd_add (f : Nat → Bool) (d : Int) (a b : Nat) (h : fnd f d a = 0) : fnd f d (a + b) = if fnd (sh f a) (d - ex f a) b = 0 then 0 else a + fnd (sh f a) (d - ex f a) b := by
  induction b with
  | zero => simp [fnd, h]
  | succ b ih =>
    have hs1 : fnd f d (a + (b + 1)) = if fnd f d (a + b) ≠ 0 then fnd f d (a + b) else if ex f (a + (b + 1)) = d then a + (b + 1) else 0 := rfl
    have hs2 : fnd (sh f a) (d - ex f a) (b + 1) = if fnd (sh f a) (d - ex f a) b ≠ 0 then fnd (sh f a) (d - ex f a) b else if ex (sh f a) (b + 1) = d - ex f a then b + 1 else 0 := rfl
    rw [hs1, ih, ex_add f a (b + 1)]
    by_cases h1 : fnd (sh f a) (d - ex f a) b = 0
    · rw [if_neg (show ¬ (fnd (sh f a) (d - ex f a) b ≠ 0) by omega)] at hs2
      rw [if_pos h1, if_neg (by omega)]
      by_cases h2 : ex (sh f a) (b + 1) = d - ex f a
      · rw [if_pos h2] at hs2
        rw [hs2, if_pos (by omega), if_neg (by omega)]
      · rw [if_neg h2] at hs2
        rw [hs2, if_neg (by omega), if_pos rfl]
    · rw [if_pos h1] at hs2
      rw [if_neg h1, if_pos (by omega), hs2, if_neg h1]
/-- The excess by the ones. -/
theorem ex_ones (w n : Nat) : ex w.testBit n = 2 * (onesTo w n : Int) - n := by
  induction n with
  | zero => simp [ex, onesTo]
  | succ n ih => simp only [ex, onesTo]; rw [ih]; cases w.testBit n <;> simp [sgn] <;> omega
/-- The steps of word.Reach. -/
def lo64 (f : Nat → Bool) (n : Nat) : Int := if n = 0 then 64 else lo f n
def hi64 (f : Nat → Bool) (n : Nat) : Int := if n = 0 then -64 else hi f n
theorem lo64_succ (f : Nat → Bool) (n : Nat) (h : n < 64) : lo64 f (n + 1) = min (lo64 f n) (ex f (n + 1)) := by
  have := ex_abs f 1
  unfold lo64
  rw [if_neg (by omega)]
  simp only [lo]
  by_cases h0 : n = 0
  · subst h0; simp only [if_true, Nat.zero_add]; omega
  · rw [if_neg h0, if_neg h0]
theorem hi64_succ (f : Nat → Bool) (n : Nat) (h : n < 64) : hi64 f (n + 1) = max (hi64 f n) (ex f (n + 1)) := by
  have := ex_abs f 1
  unfold hi64
  rw [if_neg (by omega)]
  simp only [hi]
  by_cases h0 : n = 0
  · subst h0; simp only [if_true, Nat.zero_add]; omega
  · rw [if_neg h0, if_neg h0]

end Go.Proofs.YtlpnbkfcbamnbaaDoor.L
