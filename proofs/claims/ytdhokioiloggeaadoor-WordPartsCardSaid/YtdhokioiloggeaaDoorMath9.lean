/- Plain laws: excesses from the end, turned rows, balanced rows. No program in sight. -/
import Derived.Test.YtdhokioiloggeaaDoorMath8
set_option linter.unusedVariables false
set_option linter.unusedSimpArgs false
namespace Go.Proofs.YtdhokioiloggeaaDoor.L

theorem ex_one (f : Nat → Bool) : ex f 1 = sgn (f 0) := by simp [ex]
theorem lo_ge (f : Nat → Bool) (c : Int) (n : Nat) (h : 0 < n) : c ≤ lo f n ↔ ∀ k, 0 < k → k ≤ n → c ≤ ex f k := by
  induction n with
  | zero => omega
  | succ n ih =>
    simp only [lo]
    by_cases h0 : n = 0
    · subst h0; rw [if_pos rfl]
      constructor
      · intro h k h1 h2
        have : k = 1 := by omega
        subst this; exact h
      · intro h; exact h 1 (by omega) (by omega)
    · rw [if_neg h0]
      have ih := ih (by omega)
      constructor
      · intro h k h1 h2
        rcases Nat.lt_or_ge n k with h3 | h3
        · have : k = n + 1 := by omega
          subst this; omega
        · exact (ih.1 (by omega)) k h1 h3
      · intro h
        have h1 := ih.2 (fun k a b => h k a (by omega))
        have h2 := h (n + 1) (by omega) (by omega)
        omega
theorem hi_le (f : Nat → Bool) (c : Int) (n : Nat) (h : 0 < n) : hi f n ≤ c ↔ ∀ k, 0 < k → k ≤ n → ex f k ≤ c := by
  induction n with
  | zero => omega
  | succ n ih =>
    simp only [hi]
    by_cases h0 : n = 0
    · subst h0; rw [if_pos rfl]
      constructor
      · intro h k h1 h2
        have : k = 1 := by omega
        subst this; exact h
      · intro h; exact h 1 (by omega) (by omega)
    · rw [if_neg h0]
      have ih := ih (by omega)
      constructor
      · intro h k h1 h2
        rcases Nat.lt_or_ge n k with h3 | h3
        · have : k = n + 1 := by omega
          subst this; omega
        · exact (ih.1 (by omega)) k h1 h3
      · intro h
        have h1 := ih.2 (fun k a b => h k a (by omega))
        have h2 := h (n + 1) (by omega) (by omega)
        omega
theorem ex_not (f : Nat → Bool) (n : Nat) : ex (fun i => !f i) n = -ex f n := by
  induction n with
  | zero => rfl
  | succ n ih => simp only [ex, ih]; cases f n <;> simp [sgn] <;> omega
theorem fnd_not (f : Nat → Bool) (d : Int) (n : Nat) : fnd (fun i => !f i) (-d) n = fnd f d n := by
  induction n with
  | zero => rfl
  | succ n ih =>
    simp only [fnd, ih, ex_not]
    by_cases h : ex f (n + 1) = d
    · rw [if_pos h, if_pos (show -ex f (n + 1) = -d by omega)]
    · rw [if_neg h, if_neg (show ¬ (-ex f (n + 1) = -d) by omega)]
/-- From the end: the other way round the excess of all is the same. -/
theorem ex_rev (f : Nat → Bool) (n : Nat) : ex (fun i => f (n - 1 - i)) n = ex f n := by
  induction n with
  | zero => rfl
  | succ n ih =>
    have h1 : ex (fun i => f (n + 1 - 1 - i)) (1 + n) = ex (fun i => f (n + 1 - 1 - i)) 1 + ex (sh (fun i => f (n + 1 - 1 - i)) 1) n := ex_add _ 1 n
    have h2 : ex (sh (fun i => f (n + 1 - 1 - i)) 1) n = ex (fun i => f (n - 1 - i)) n := ex_congr n (fun i hi => by
      show f (n + 1 - 1 - (1 + i)) = f (n - 1 - i)
      congr 1; omega)
    have h3 : ex (fun i => f (n + 1 - 1 - i)) (n + 1) = ex (fun i => f (n + 1 - 1 - i)) (1 + n) := by rw [Nat.add_comm n 1]
    have h4 : ex f (n + 1) = ex f n + sgn (f n) := rfl
    rw [h3, h1, h2, ih, ex_one, h4]
    have h5 : n + 1 - 1 - 0 = n := by omega
    simp only [h5]
    omega

/-- The bits ahead of a place, from it on. -/
def rv (f : Nat → Bool) (b : Nat) : Nat → Bool := fun i => f (b - 1 - i)
theorem ex_rv (f : Nat → Bool) (a b : Nat) (h : a ≤ b) : ex (rv f b) (b - a) = ex (sh f a) (b - a) := by
  rw [← ex_rev (sh f a) (b - a)]
  refine ex_congr _ (fun i hi => ?_)
  show f (b - 1 - i) = f (a + (b - a - 1 - i))
  congr 1; omega

/-- Where a beginning of a stretch has an excess; -1. -/
def forthN (f : Nat → Bool) (a b : Nat) (d : Int) : Int := if fnd (sh f a) d (b - a) = 0 then -1 else (a : Int) + fnd (sh f a) d (b - a) - 1
/-- Where an end of a stretch has an excess; -1. -/
def backN (f : Nat → Bool) (a b : Nat) (d : Int) : Int := if fnd (rv f b) d (b - a) = 0 then -1 else (b : Int) - fnd (rv f b) d (b - a)

/-- Turned round, each bit the other one. -/
theorem turned_ex (f g : Nat → Bool) (n a b : Nat) (hab : a ≤ b) (hb : b ≤ n) (hg : ∀ i, i < n → g (n - 1 - i) = !f i) :
    ex (sh g (n - b)) (b - a) = -ex (sh f a) (b - a) := by
  rw [← ex_rv f a b hab, ← ex_not]
  refine ex_congr _ (fun i hi => ?_)
  show g (n - b + i) = !f (b - 1 - i)
  rw [← hg (b - 1 - i) (by omega)]
  congr 1; omega
theorem turned_back (f g : Nat → Bool) (n a b : Nat) (d : Int) (hab : a ≤ b) (hb : b ≤ n) (hg : ∀ i, i < n → g (n - 1 - i) = !f i) :
    fnd (rv g (n - a)) (-d) (b - a) = fnd (sh f a) d (b - a) := by
  rw [← fnd_not (sh f a) d (b - a)]
  refine fnd_congr _ _ (fun i hi => ?_)
  show g (n - a - 1 - i) = !f (a + i)
  rw [← hg (a + i) (by omega)]
  congr 1; omega
theorem turned_both (f g : Nat → Bool) (n a b : Nat) (d : Int) (hab : a ≤ b) (hb : b ≤ n) (hg : ∀ i, i < n → g (n - 1 - i) = !f i) :
    (forthN f a b d = -1 ∧ backN g (n - b) (n - a) (-d) = -1) ∨ (0 ≤ forthN f a b d ∧ forthN f a b d ≤ n ∧ backN g (n - b) (n - a) (-d) = (n : Int) - 1 - forthN f a b d ∧ forthN f a b d ≠ -1) := by
  unfold forthN backN
  rw [show n - a - (n - b) = b - a from by omega, turned_back f g n a b d hab hb hg]
  have hl := fnd_le (sh f a) d (b - a)
  by_cases h : fnd (sh f a) d (b - a) = 0
  · left; rw [if_pos h, if_pos h]; exact ⟨rfl, rfl⟩
  · right; rw [if_neg h, if_neg h]; omega

/-- Are the first n bits balanced? -/
def bal (f : Nat → Bool) (n : Nat) : Bool := decide (ex f n = 0) && decide (0 ≤ lo f n)
theorem lo_zero (f : Nat → Bool) : lo f 0 = 0 := rfl
theorem bal_iff (f : Nat → Bool) (n : Nat) : bal f n = true ↔ ex f n = 0 ∧ ∀ k, k ≤ n → 0 ≤ ex f k := by
  unfold bal
  rw [Bool.and_eq_true, decide_eq_true_eq, decide_eq_true_eq]
  rcases Nat.eq_zero_or_pos n with h | h
  · subst h
    constructor
    · intro _
      refine ⟨rfl, fun k hk => ?_⟩
      have : k = 0 := by omega
      subst this; exact Int.le_refl _
    · intro _; exact ⟨rfl, by rw [lo_zero]; exact Int.le_refl _⟩
  · rw [lo_ge f 0 n h]
    constructor
    · intro ⟨h1, h2⟩
      refine ⟨h1, fun k hk => ?_⟩
      rcases Nat.eq_zero_or_pos k with h3 | h3
      · subst h3; exact Int.le_refl _
      · exact h2 k h3 hk
    · intro ⟨h1, h2⟩; exact ⟨h1, fun k _ hk => h2 k hk⟩
/-- How far the reference goes: to the first beginning whose excess is below 0. -/
theorem bal_stop (f : Nat → Bool) (n k : Nat) (hk : k ≤ n) (h : ∀ i, i < k → 0 ≤ ex f i) (hs : k = n ∨ ex f k < 0) : bal f n = decide (ex f k = 0) := by
  rw [Bool.eq_iff_iff, bal_iff, decide_eq_true_eq]
  constructor
  · intro ⟨h1, h2⟩
    rcases hs with rfl | hs
    · exact h1
    · have := h2 k hk; omega
  · intro h1
    rcases hs with rfl | hs
    · refine ⟨h1, fun i hi => ?_⟩
      rcases Nat.lt_or_ge i k with h3 | h3
      · exact h i h3
      · have : i = k := by omega
        subst this; omega
    · omega
/-- With a ( ahead and a ) behind it stays so. -/
theorem bal_wrap (f g : Nat → Bool) (n : Nat) (h : bal f n = true) (h0 : g 0 = true) (h1 : ∀ i, i < n → g (i + 1) = f i) (h2 : g (n + 1) = false) : bal g (n + 2) = true := by
  rw [bal_iff] at h ⊢
  have key : ∀ k, k ≤ n → ex g (k + 1) = 1 + ex f k := by
    intro k
    induction k with
    | zero => intro _; rw [Nat.zero_add, ex_one, h0]; rfl
    | succ k ih =>
      intro hk
      have := ih (by omega)
      have e1 : ex g (k + 1 + 1) = ex g (k + 1) + sgn (g (k + 1)) := rfl
      have e2 : ex f (k + 1) = ex f k + sgn (f k) := rfl
      rw [e1, e2, this, h1 k (by omega)]; omega
  have e : ex g (n + 2) = 0 := by
    have e1 : ex g (n + 1 + 1) = ex g (n + 1) + sgn (g (n + 1)) := rfl
    rw [show n + 2 = n + 1 + 1 from rfl, e1, key n (by omega), h2, h.1]; rfl
  refine ⟨e, fun k hk => ?_⟩
  rcases Nat.eq_zero_or_pos k with h3 | h3
  · subst h3; exact Int.le_refl _
  · rcases Nat.lt_or_ge k (n + 2) with h4 | h4
    · have := key (k - 1) (by omega)
      rw [show k - 1 + 1 = k from by omega] at this
      have := h.2 (k - 1) (by omega)
      omega
    · have : k = n + 2 := by omega
      subst this; omega

/-- What the reference's Reach has come to. -/
theorem lo_step (f : Nat → Bool) (n : Nat) : lo f (n + 1) = if n = 0 ∨ ex f (n + 1) < lo f n then ex f (n + 1) else lo f n := by
  simp only [lo]
  by_cases h : n = 0
  · subst h; simp
  · rw [if_neg h]
    by_cases h2 : ex f (n + 1) < lo f n
    · rw [if_pos (Or.inr h2)]; omega
    · rw [if_neg (by omega)]; omega
theorem hi_step (f : Nat → Bool) (n : Nat) : hi f (n + 1) = if n = 0 ∨ hi f n < ex f (n + 1) then ex f (n + 1) else hi f n := by
  simp only [hi]
  by_cases h : n = 0
  · subst h; simp
  · rw [if_neg h]
    by_cases h2 : hi f n < ex f (n + 1)
    · rw [if_pos (Or.inr h2)]; omega
    · rw [if_neg (by omega)]; omega
/-- Two stretches, one behind the other. -/
theorem ex_two (f : Nat → Bool) (a b n : Nat) (h1 : a ≤ b) (h2 : b ≤ n) : ex (sh f 0) a + ex (sh f a) (b - a) + ex (sh f b) (n - b) = ex (sh f 0) n := by
  have h0 : sh f 0 = f := by funext i; show f (0 + i) = f i; rw [Nat.zero_add]
  rw [h0]
  have e1 := ex_add f a (b - a)
  have e2 := ex_add f b (n - b)
  rw [show a + (b - a) = b from by omega] at e1
  rw [show b + (n - b) = n from by omega] at e2
  omega
/-- A part of a word turned round: what paren.turned makes. -/
theorem turned_bit (x n i : Nat) (hx : x < 18446744073709551616) (hn : n ≤ 64) (hi : i < n) : (fieldN (rev64 x) ((64 : Int) - (n : Int)) (n : Int)).testBit i = x.testBit (n - 1 - i) := by
  unfold fieldN
  have hc : clampN (n : Int) = n := clampN_nat hn
  rw [if_neg (by omega), if_neg (by omega), hc, Nat.testBit_mod_two_pow, Nat.testBit_div_two_pow]
  have e : ((64 : Int) - (n : Int)).toNat = 64 - n := by omega
  have hd : decide (i < n) = true := by simpa using hi
  rw [e, hd, Bool.true_and, rev64_bit x _ hx (by omega)]
  congr 1; omega
theorem turned_lt (x n : Nat) (hn : n ≤ 64) : fieldN (rev64 x) ((64 : Int) - (n : Int)) (n : Int) < 18446744073709551616 := by
  unfold fieldN
  split
  · omega
  · split
    · exact Nat.lt_of_le_of_lt (Nat.mod_le _ _) (Nat.mod_lt _ (by omega))
    · exact Nat.lt_of_le_of_lt (Nat.mod_le _ _) (Nat.lt_of_le_of_lt (Nat.div_le_self _ _) (rev64_lt x))

theorem swp32 (x : Nat) (hx : x < 18446744073709551616) : swp 32 m32 x = (x / 4294967296) ||| (x * 4294967296 % 18446744073709551616) := by
  have e : ∀ y, y &&& m32 = y % 4294967296 := fun y => Nat.and_two_pow_sub_one_eq_mod y 32
  unfold swp
  rw [e, e, show (2 : Nat) ^ 32 = 4294967296 from rfl, Nat.mod_eq_of_lt (show x / 4294967296 < 4294967296 by omega)]
  have h : x % 4294967296 * 4294967296 % 18446744073709551616 = x * 4294967296 % 18446744073709551616 := by omega
  rw [h]

end Go.Proofs.YtdhokioiloggeaaDoor.L
