/- Plain laws: where a beginning, and an end, has an excess: what tells it. No program in sight. -/
import Derived.Test.YtacllonekidocaaDoorMaths
set_option linter.unusedVariables false
set_option linter.unusedSimpArgs false
namespace Go.Proofs.YtacllonekidocaaDoor.L

theorem fnd_first (g : Nat → Bool) (d : Int) : ∀ n j, 0 < j → j ≤ n → ex g j = d → (∀ q, 0 < q → q < j → ex g q ≠ d) → fnd g d n = j
  | 0, j, h0, hj, _, _ => by omega
  | n + 1, j, h0, hj, he, hq => by
    simp only [fnd]
    rcases Nat.lt_or_ge n j with h | h
    · obtain rfl : j = n + 1 := by omega
      have : fnd g d n = 0 := (fnd_none g d n).2 (fun k h1 h2 => hq k h1 (by omega))
      rw [if_neg (by simp [this]), if_pos he]
    · rw [fnd_first g d n j h0 h he hq, if_pos (by omega)]
theorem fnd_told (g : Nat → Bool) (d : Int) (n : Nat) (h : fnd g d n ≠ 0) : 0 < fnd g d n ∧ fnd g d n ≤ n ∧ ex g (fnd g d n) = d ∧ ∀ q, 0 < q → q < fnd g d n → ex g q ≠ d := by
  refine ⟨by omega, fnd_le g d n, fnd_ex g d n h, fun q h0 hq he => ?_⟩
  have hl := fnd_le g d n
  have hk := fnd_keep g d q (n - q) (fun hz => (fnd_none g d q).1 hz q h0 (Nat.le_refl _) he)
  rw [show q + (n - q) = n from by omega] at hk
  have := fnd_le g d q
  omega
theorem forth_is (f : Nat → Bool) (a n m : Nat) (d : Int) (h1 : a < m) (h2 : m ≤ n) (he : eb f a m = d) (hq : ∀ q, a < q → q < m → eb f a q ≠ d) : forthN f a n d = (m : Int) - 1 := by
  have : fnd (sh f a) d (n - a) = m - a := fnd_first _ _ _ _ (by omega) (by omega) he (fun q q1 q2 => by
    have := hq (a + q) (by omega) (by omega)
    unfold eb at this; rwa [Nat.add_sub_cancel_left] at this)
  unfold forthN
  rw [this, if_neg (by omega)]; omega
theorem forth_no (f : Nat → Bool) (a n : Nat) (d : Int) (hq : ∀ q, a < q → q ≤ n → eb f a q ≠ d) : forthN f a n d = -1 :=
  forthN_none f a n d ((fnd_none _ _ _).2 (fun k h1 h2 => by
    have := hq (a + k) (by omega) (by omega)
    unfold eb at this; rwa [Nat.add_sub_cancel_left] at this))
theorem forth_cases (f : Nat → Bool) (a n : Nat) (d : Int) : (forthN f a n d = -1 ∧ ∀ q, a < q → q ≤ n → eb f a q ≠ d) ∨ ∃ m, a < m ∧ m ≤ n ∧ forthN f a n d = (m : Int) - 1 ∧ eb f a m = d ∧ ∀ q, a < q → q < m → eb f a q ≠ d := by
  by_cases h : fnd (sh f a) d (n - a) = 0
  · refine Or.inl ⟨forthN_none _ _ _ _ h, fun q h1 h2 => ?_⟩
    have := (fnd_none _ _ _).1 h (q - a) (by omega) (by omega)
    exact this
  · obtain ⟨t1, t2, t3, t4⟩ := fnd_told _ _ _ h
    refine Or.inr ⟨a + fnd (sh f a) d (n - a), by omega, by omega, ?_, ?_, fun q h1 h2 => t4 (q - a) (by omega) (by omega)⟩
    · unfold forthN; rw [if_neg h]; omega
    · unfold eb; rw [Nat.add_sub_cancel_left]; exact t3
theorem ex_rv_eb (f : Nat → Bool) (b m : Nat) (h : m ≤ b) : ex (rv f b) m = eb f (b - m) b := by
  have := ex_rv f (b - m) b (by omega)
  rw [show b - (b - m) = m from by omega] at this
  rw [this]; unfold eb; rw [show b - (b - m) = m from by omega]
theorem back_is (f : Nat → Bool) (b j : Nat) (d : Int) (h1 : j < b) (he : eb f j b = d) (hq : ∀ q, j < q → q < b → eb f q b ≠ d) : backN f 0 b d = (j : Int) := by
  have : fnd (rv f b) d (b - 0) = b - j := fnd_first _ _ _ _ (by omega) (by omega) (by rw [ex_rv_eb f b _ (by omega), show b - (b - j) = j from by omega]; exact he) (fun q q1 q2 => by
    rw [ex_rv_eb f b _ (by omega)]; exact hq (b - q) (by omega) (by omega))
  unfold backN
  rw [this, if_neg (by omega)]; omega
theorem back_no (f : Nat → Bool) (b : Nat) (d : Int) (hq : ∀ q, q < b → eb f q b ≠ d) : backN f 0 b d = -1 :=
  backN_none f 0 b d ((fnd_none _ _ _).2 (fun k h1 h2 => by rw [ex_rv_eb f b _ (by omega)]; exact hq (b - k) (by omega)))
theorem back_cases (f : Nat → Bool) (b : Nat) (d : Int) : (backN f 0 b d = -1 ∧ ∀ q, q < b → eb f q b ≠ d) ∨ ∃ j, j < b ∧ backN f 0 b d = (j : Int) ∧ eb f j b = d ∧ ∀ q, j < q → q < b → eb f q b ≠ d := by
  by_cases h : fnd (rv f b) d (b - 0) = 0
  · refine Or.inl ⟨backN_none _ _ _ _ h, fun q h1 => ?_⟩
    have := (fnd_none _ _ _).1 h (b - q) (by omega) (by omega)
    rw [ex_rv_eb f b _ (by omega), show b - (b - q) = q from by omega] at this
    exact this
  · obtain ⟨t1, t2, t3, t4⟩ := fnd_told _ _ _ h
    refine Or.inr ⟨b - fnd (rv f b) d (b - 0), by omega, ?_, ?_, fun q h1 h2 => ?_⟩
    · unfold backN; rw [if_neg h]; omega
    · rw [ex_rv_eb f b _ (by omega)] at t3; exact t3
    · have := t4 (b - q) (by omega) (by omega)
      rw [ex_rv_eb f b _ (by omega), show b - (b - q) = q from by omega] at this
      exact this
theorem eb_succ (f : Nat → Bool) (a i : Nat) (h : a ≤ i) : eb f a (i + 1) = eb f a i + sgn (f i) := by
  unfold eb
  rw [show i + 1 - a = (i - a) + 1 from by omega]
  show ex (sh f a) (i - a) + sgn (sh f a (i - a)) = _
  unfold sh; rw [show a + (i - a) = i from by omega]
/-- Behind a ( that isn't closed the excess stays above. -/
theorem eb_above (f : Nat → Bool) (i : Nat) (hi : f i = true) : ∀ n, i < n → (∀ q, i < q → q ≤ n → eb f i q ≠ 0) → 0 < eb f i n
  | 0, h, _ => by omega
  | n + 1, h, hq => by
    rcases Nat.eq_or_lt_of_le (show i ≤ n from by omega) with h1 | h1
    · subst h1
      rw [eb_succ f i i (Nat.le_refl _), eb_self, hi]; decide
    · have ih := eb_above f i hi n h1 (fun q q1 q2 => hq q q1 (by omega))
      have h2 := hq (n + 1) (by omega) (by omega)
      have h3 := eb_succ f i n (by omega)
      have h4 := sgn_abs (f n)
      omega
/-- Where a ( is closed: its ) is none; the excess between is above; back it is found. -/
theorem close_props (f : Nat → Bool) (i m : Nat) (hi : f i = true) (h1 : i < m) (he : eb f i m = 0) (hq : ∀ q, i < q → q < m → eb f i q ≠ 0) :
    f (m - 1) = false ∧ i + 1 < m ∧ (∀ q, i < q → q < m → 0 < eb f i q) ∧ backN f 0 m 0 = (i : Int) := by
  have hi1 : eb f i (i + 1) = 1 := by rw [eb_succ f i i (Nat.le_refl _), eb_self, hi]; decide
  have hm : i + 1 < m := by
    rcases Nat.eq_or_lt_of_le (show i + 1 ≤ m from h1) with h | h
    · rw [← h, hi1] at he; omega
    · exact h
  have hpos : ∀ q, i < q → q < m → 0 < eb f i q := fun q q1 q2 => eb_above f i hi q q1 (fun r r1 r2 => hq r r1 (by omega))
  refine ⟨?_, hm, hpos, ?_⟩
  · have h2 := eb_succ f i (m - 1) (by omega)
    rw [show m - 1 + 1 = m from by omega, he] at h2
    have h3 := hpos (m - 1) (by omega) (by omega)
    cases hf : f (m - 1) with
    | false => rfl
    | true => rw [hf] at h2; simp [sgn] at h2; omega
  · refine back_is f m i 0 h1 he (fun q q1 q2 hz => ?_)
    have h2 := eb_add f i q m (by omega) (by omega)
    have h3 := hpos q q1 q2
    omega
end Go.Proofs.YtacllonekidocaaDoor.L
