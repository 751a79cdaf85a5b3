/- The texts MathU, MathV, MathW, MathX, MathY, in one. -/
import Derived.Test.YtacllonekidocaaGreatDoorMaths
/- Plain laws: where a beginning, and an end, has an excess: what tells it. No program in sight. -/

set_option linter.unusedVariables false
set_option linter.unusedSimpArgs false
namespace Go.Proofs.YtacllonekidocaaGreatDoor.L

theorem fnd_first (g : Nat → Bool) (d : Int) : ∀ n j, 0 < j → j ≤ n → ex g j = d → (∀ q, 0 < q → q < j → ex g q ≠ d) → fnd g d n = j
  | 0, j, h0, hj, _, _ => by omega
  | n + 1, j, h0, hj, he, hq => by
    simp only [fnd]
    rcases Nat.lt_or_ge n j with h | h
    · obtain rfl : j = n + 1 := by omega
      have : fnd g d n = 0 := (fnd_none g d n).2 (fun k h1 h2 => hq k h1 (by omega))
      rw [if_neg (by simp [this]), if_pos he]
    · rw [fnd_first g d n j h0 h he hq, if_pos (by omega)]
theorem fnd_told (g : Nat → Bool) (d : Int) (n : Nat) (h : fnd g d n ≠ 0) : 0 < fnd g d n ∧ fnd g d n ≤ n ∧ ex g (fnd g d n) = d ∧ ∀ q, 0 < q → q < fnd g d n → ex g q ≠ d := by
  refine ⟨by omega, fnd_le g d n, fnd_ex g d n h, fun q h0 hq he => ?_⟩
  have hl := fnd_le g d n
  have hk := fnd_keep g d q (n - q) (fun hz => (fnd_none g d q).1 hz q h0 (Nat.le_refl _) he)
  rw [show q + (n - q) = n from by omega] at hk
  have := fnd_le g d q
  omega
theorem forth_is (f : Nat → Bool) (a n m : Nat) (d : Int) (h1 : a < m) (h2 : m ≤ n) (he : eb f a m = d) (hq : ∀ q, a < q → q < m → eb f a q ≠ d) : forthN f a n d = (m : Int) - 1 := by
  have : fnd (sh f a) d (n - a) = m - a := fnd_first _ _ _ _ (by omega) (by omega) he (fun q q1 q2 => by
    have := hq (a + q) (by omega) (by omega)
    unfold eb at this; rwa [Nat.add_sub_cancel_left] at this)
  unfold forthN
  rw [this, if_neg (by omega)]; omega
theorem forth_no (f : Nat → Bool) (a n : Nat) (d : Int) (hq : ∀ q, a < q → q ≤ n → eb f a q ≠ d) : forthN f a n d = -1 :=
  forthN_none f a n d ((fnd_none _ _ _).2 (fun k h1 h2 => by
    have := hq (a + k) (by omega) (by omega)
    unfold eb at this; rwa [Nat.add_sub_cancel_left] at this))
theorem forth_cases (f : Nat → Bool) (a n : Nat) (d : Int) : (forthN f a n d = -1 ∧ ∀ q, a < q → q ≤ n → eb f a q ≠ d) ∨ ∃ m, a < m ∧ m ≤ n ∧ forthN f a n d = (m : Int) - 1 ∧ eb f a m = d ∧ ∀ q, a < q → q < m → eb f a q ≠ d := by
  by_cases h : fnd (sh f a) d (n - a) = 0
  · refine Or.inl ⟨forthN_none _ _ _ _ h, fun q h1 h2 => ?_⟩
    have := (fnd_none _ _ _).1 h (q - a) (by omega) (by omega)
    exact this
  · obtain ⟨t1, t2, t3, t4⟩ := fnd_told _ _ _ h
    refine Or.inr ⟨a + fnd (sh f a) d (n - a), by omega, by omega, ?_, ?_, fun q h1 h2 => t4 (q - a) (by omega) (by omega)⟩
    · unfold forthN; rw [if_neg h]; omega
    · unfold eb; rw [Nat.add_sub_cancel_left]; exact t3
theorem ex_rv_eb (f : Nat → Bool) (b m : Nat) (h : m ≤ b) : ex (rv f b) m = eb f (b - m) b := by
  have := ex_rv f (b - m) b (by omega)
  rw [show b - (b - m) = m from by omega] at this
  rw [this]; unfold eb; rw [show b - (b - m) = m from by omega]
theorem back_is (f : Nat → Bool) (b j : Nat) (d : Int) (h1 : j < b) (he : eb f j b = d) (hq : ∀ q, j < q → q < b → eb f q b ≠ d) : backN f 0 b d = (j : Int) := by
  have : fnd (rv f b) d (b - 0) = b - j := fnd_first _ _ _ _ (by omega) (by omega) (by rw [ex_rv_eb f b _ (by omega), show b - (b - j) = j from by omega]; exact he) (fun q q1 q2 => by
    rw [ex_rv_eb f b _ (by omega)]; exact hq (b - q) (by omega) (by omega))
  unfold backN
  rw [this, if_neg (by omega)]; omega
theorem back_no (f : Nat → Bool) (b : Nat) (d : Int) (hq : ∀ q, q < b → eb f q b ≠ d) : backN f 0 b d = -1 :=
  backN_none f 0 b d ((fnd_none _ _ _).2 (fun k h1 h2 => by rw [ex_rv_eb f b _ (by omega)]; exact hq (b - k) (by omega)))
theorem back_cases (f : Nat → Bool) (b : Nat) (d : Int) : (backN f 0 b d = -1 ∧ ∀ q, q < b → eb f q b ≠ d) ∨ ∃ j, j < b ∧ backN f 0 b d = (j : Int) ∧ eb f j b = d ∧ ∀ q, j < q → q < b → eb f q b ≠ d := by
  by_cases h : fnd (rv f b) d (b - 0) = 0
  · refine Or.inl ⟨backN_none _ _ _ _ h, fun q h1 => ?_⟩
    have := (fnd_none _ _ _).1 h (b - q) (by omega) (by omega)
    rw [ex_rv_eb f b _ (by omega), show b - (b - q) = q from by omega] at this
    exact this
  · obtain ⟨t1, t2, t3, t4⟩ := fnd_told _ _ _ h
    refine Or.inr ⟨b - fnd (rv f b) d (b - 0), by omega, ?_, ?_, fun q h1 h2 => ?_⟩
    · unfold backN; rw [if_neg h]; omega
    · rw [ex_rv_eb f b _ (by omega)] at t3; exact t3
    · have := t4 (b - q) (by omega) (by omega)
      rw [ex_rv_eb f b _ (by omega), show b - (b - q) = q from by omega] at this
      exact this
theorem eb_succ (f : Nat → Bool) (a i : Nat) (h : a ≤ i) : eb f a (i + 1) = eb f a i + sgn (f i) := by
  unfold eb
  rw [show i + 1 - a = (i - a) + 1 from by omega]
  show ex (sh f a) (i - a) + sgn (sh f a (i - a)) = _
  unfold sh; rw [show a + (i - a) = i from by omega]
/-- Behind a ( that isn't closed the excess stays above. -/
theorem eb_above (f : Nat → Bool) (i : Nat) (hi : f i = true) : ∀ n, i < n → (∀ q, i < q → q ≤ n → eb f i q ≠ 0) → 0 < eb f i n
  | 0, h, _ => by omega
  | n + 1, h, hq => by
    rcases Nat.eq_or_lt_of_le (show i ≤ n from by omega) with h1 | h1
    · subst h1
      rw [eb_succ f i i (Nat.le_refl _), eb_self, hi]; decide
    · have ih := eb_above f i hi n h1 (fun q q1 q2 => hq q q1 (by omega))
      have h2 := hq (n + 1) (by omega) (by omega)
      have h3 := eb_succ f i n (by omega)
      have h4 := sgn_abs (f n)
      omega
/-- Where a ( is closed: its ) is none; the excess between is above; back it is found. -/
theorem close_props (f : Nat → Bool) (i m : Nat) (hi : f i = true) (h1 : i < m) (he : eb f i m = 0) (hq : ∀ q, i < q → q < m → eb f i q ≠ 0) :
    f (m - 1) = false ∧ i + 1 < m ∧ (∀ q, i < q → q < m → 0 < eb f i q) ∧ backN f 0 m 0 = (i : Int) := by
  have hi1 : eb f i (i + 1) = 1 := by rw [eb_succ f i i (Nat.le_refl _), eb_self, hi]; decide
  have hm : i + 1 < m := by
    rcases Nat.eq_or_lt_of_le (show i + 1 ≤ m from h1) with h | h
    · rw [← h, hi1] at he; omega
    · exact h
  have hpos : ∀ q, i < q → q < m → 0 < eb f i q := fun q q1 q2 => eb_above f i hi q q1 (fun r r1 r2 => hq r r1 (by omega))
  refine ⟨?_, hm, hpos, ?_⟩
  · have h2 := eb_succ f i (m - 1) (by omega)
    rw [show m - 1 + 1 = m from by omega, he] at h2
    have h3 := hpos (m - 1) (by omega) (by omega)
    cases hf : f (m - 1) with
    | false => rfl
    | true => rw [hf] at h2; simp [sgn] at h2; omega
  · refine back_is f m i 0 h1 he (fun q q1 q2 hz => ?_)
    have h2 := eb_add f i q m (by omega) (by omega)
    have h3 := hpos q q1 q2
    omega
end Go.Proofs.YtacllonekidocaaGreatDoor.L

/- Plain laws: nodes of a balanced row: their ends, their parents. No program in sight. -/

set_option linter.unusedVariables false
set_option linter.unusedSimpArgs false
namespace Go.Proofs.YtacllonekidocaaGreatDoor.L

/-- Steps of one take each number between. -/
theorem ivt (g : Nat → Int) (hg : ∀ q, g (q + 1) ≤ g q + 1 ∧ g q - 1 ≤ g (q + 1)) : ∀ n a v, v ≤ g a → g (a + n) ≤ v → ∃ q, a ≤ q ∧ q ≤ a + n ∧ g q = v
  | 0, a, v, h1, h2 => ⟨a, Nat.le_refl _, by omega, by rw [Nat.add_zero] at h2; omega⟩
  | n + 1, a, v, h1, h2 => by
    by_cases h : g a = v
    · exact ⟨a, Nat.le_refl _, by omega, h⟩
    · have h3 := hg a
      obtain ⟨q, q1, q2, q3⟩ := ivt g hg n (a + 1) v (by omega) (by rw [show a + 1 + n = a + (n + 1) from by omega]; exact h2)
      exact ⟨q, by omega, by omega, q3⟩
/-- The excess of the first bits. -/
def e0 (f : Nat → Bool) (q : Nat) : Int := eb f 0 q
theorem e0_step (f : Nat → Bool) (q : Nat) : e0 f (q + 1) ≤ e0 f q + 1 ∧ e0 f q - 1 ≤ e0 f (q + 1) := by
  have h1 := eb_succ f 0 q (Nat.zero_le _)
  have h2 := sgn_abs (f q)
  unfold e0; omega
theorem eb_e0 (f : Nat → Bool) (a b : Nat) (h : a ≤ b) : eb f a b = e0 f b - e0 f a := by
  have := eb_add f 0 a b (Nat.zero_le _) h
  unfold e0; omega
theorem e0_zero (f : Nat → Bool) : e0 f 0 = 0 := eb_self f 0
theorem e0_node (f : Nat → Bool) (q : Nat) : e0 f (q + 1) = e0 f q + (if f q then 1 else -1) := by
  have h1 := eb_succ f 0 q (Nat.zero_le _)
  unfold e0; rw [h1]; unfold sgn; rfl
/-- A balanced row. -/
structure Bal (f : Nat → Bool) (n : Nat) : Prop where
  nonneg : ∀ q, q ≤ n → 0 ≤ e0 f q
  all : e0 f n = 0
theorem Bal.of {f : Nat → Bool} {n : Nat} (h : bal f n = true) : Bal f n := by
  have h2 := (bal_iff f n).1 h
  have e : ∀ q, e0 f q = ex f q := fun q => by
    unfold e0 eb
    rw [Nat.sub_zero]
    exact ex_congr q (fun i _ => by unfold sh; rw [Nat.zero_add])
  exact ⟨fun q hq => by rw [e]; exact h2.2 q hq, by rw [e]; exact h2.1⟩
section
variable {f : Nat → Bool} {n : Nat}
/-- A node is closed. -/
theorem Bal.close (b : Bal f n) {u : Nat} (hu : f u = true) (hn : u < n) : ∃ m, u + 1 < m ∧ m ≤ n ∧ forthN f u n 0 = (m : Int) - 1 ∧ e0 f m = e0 f u ∧ (∀ q, u < q → q < m → e0 f u < e0 f q) ∧ f (m - 1) = false ∧ backN f 0 m 0 = (u : Int) := by
  rcases forth_cases f u n 0 with ⟨_, h2⟩ | ⟨m, h1, h2, h3, h4, h5⟩
  · have h3 := eb_above f u hu n hn h2
    rw [eb_e0 f u n (by omega), b.all] at h3
    have := b.nonneg u (by omega)
    omega
  · obtain ⟨c1, c2, c3, c4⟩ := close_props f u m hu h1 h4 h5
    refine ⟨m, c2, h2, h3, ?_, fun q q1 q2 => ?_, c1, c4⟩
    · rw [eb_e0 f u m (by omega)] at h4; omega
    · have := c3 q q1 q2; rw [eb_e0 f u q (by omega)] at this; omega
/-- A node has a parent, or stands at the top. -/
theorem Bal.parent (b : Bal f n) {u : Nat} (hu : f u = true) (hn : u < n) : (backN f 0 u 1 = -1 ∧ e0 f u = 0) ∨ ∃ j, j < u ∧ backN f 0 u 1 = (j : Int) ∧ f j = true ∧ e0 f u = e0 f j + 1 ∧ ∀ q, j < q → q ≤ u → e0 f u ≤ e0 f q := by
  rcases back_cases f u 1 with ⟨h1, h2⟩ | ⟨j, h1, h2, h3, h4⟩
  · refine Or.inl ⟨h1, Classical.byContradiction fun hne => ?_⟩
    have h0 := b.nonneg u (by omega)
    obtain ⟨q, q1, q2, q3⟩ := ivt (fun q => -(e0 f q)) (fun q => by have := e0_step f q; omega) u 0 (1 - e0 f u) (by rw [e0_zero]; omega) (by rw [Nat.zero_add]; omega)
    rcases Nat.eq_or_lt_of_le q2 with h | h
    · rw [Nat.zero_add] at h; subst h; omega
    · have := h2 q (by omega)
      rw [eb_e0 f q u (by omega)] at this
      exact this (by omega)
  · rw [eb_e0 f j u (by omega)] at h3
    have hmin : ∀ q, j < q → q ≤ u → e0 f u ≤ e0 f q := fun q q1 q2 => Classical.byContradiction fun hc => by
      obtain ⟨r, r1, r2, r3⟩ := ivt (fun q => -(e0 f q)) (fun q => by have := e0_step f q; omega) (u - q) q (1 - e0 f u) (by omega) (by rw [show q + (u - q) = u from by omega]; omega)
      rcases Nat.eq_or_lt_of_le (show r ≤ u by omega) with h | h
      · subst h; omega
      · have := h4 r (by omega) h
        rw [eb_e0 f r u (by omega)] at this
        exact this (by omega)
    refine Or.inr ⟨j, h1, h2, ?_, by omega, hmin⟩
    have h5 := e0_node f j
    have h6 := hmin (j + 1) (by omega) (by omega)
    cases hf : f j with
    | true => rfl
    | false => rw [hf] at h5; simp at h5; omega
/-- Of two nodes, the later one within the earlier one: it is closed ahead of it. -/
theorem Bal.inside (b : Bal f n) {x y mx my : Nat} (hy : f y = true) (h1 : x < y) (h2 : y < mx) (hmx : mx ≤ n) (ex : e0 f mx = e0 f x) (hx : ∀ q, x < q → q < mx → e0 f x < e0 f q) (hmy : y + 1 < my) (ey : e0 f my = e0 f y) (hq : ∀ q, y < q → q < my → e0 f y < e0 f q) : my < mx := by
  refine Classical.byContradiction fun hc => ?_
  have h3 := hx y h1 h2
  rcases Nat.eq_or_lt_of_le (show mx ≤ my by omega) with h | h
  · subst h; omega
  · have h4 := hq mx (by omega) h
    omega
/-- An ancestor of a node, or itself. -/
def Enc (f : Nat → Bool) (u y : Nat) : Prop := u ≤ y ∧ f u = true ∧ ∀ q, u < q → q ≤ y → e0 f u < e0 f q
theorem Enc.refl {y : Nat} (h : f y = true) : Enc f y y := ⟨Nat.le_refl _, h, fun q q1 q2 => by omega⟩
theorem Enc.up {u y j : Nat} (h : Enc f u y) (hj : j < u) (hf : f j = true) (he : e0 f u = e0 f j + 1) (hq : ∀ q, j < q → q ≤ u → e0 f u ≤ e0 f q) : Enc f j y := by
  refine ⟨by have := h.1; omega, hf, fun q q1 q2 => ?_⟩
  rcases Nat.lt_or_ge u q with h1 | h1
  · have := h.2.2 q h1 q2; omega
  · have := hq q q1 h1; omega
theorem e0_le (f : Nat → Bool) (q : Nat) : e0 f q ≤ q := by have := eb_abs f 0 q; unfold e0; omega
/-- The excess is no greater than half the row. -/
theorem Bal.half (b : Bal f n) (q : Nat) (h : q ≤ n) : 2 * e0 f q ≤ n := by
  have h1 := e0_le f q
  have h2 := eb_abs f q n
  rw [eb_e0 f q n h, b.all] at h2
  omega
end
end Go.Proofs.YtacllonekidocaaGreatDoor.L

/- Plain laws: children of nodes of a balanced row. No program in sight. -/


set_option linter.unusedVariables false
set_option linter.unusedSimpArgs false
namespace Go.Proofs.YtacllonekidocaaGreatDoor.L

/-- How many of the first numbers are so. -/
def cP (p : Nat → Bool) : Nat → Nat
  | 0 => 0
  | n + 1 => cP p n + (p n).toNat
theorem cP_le (p : Nat → Bool) : ∀ n, cP p n ≤ n
  | 0 => Nat.le_refl _
  | n + 1 => by have := cP_le p n; have := Bool.toNat_le (p n); unfold cP; omega
theorem cP_mono (p : Nat → Bool) (a : Nat) : ∀ k, cP p a ≤ cP p (a + k)
  | 0 => Nat.le_refl _
  | k + 1 => by have := cP_mono p a k; rw [← Nat.add_assoc]; show _ ≤ cP p (a + k) + _; omega
theorem cP_gap (p : Nat → Bool) (a : Nat) : ∀ k, (∀ q, a ≤ q → q < a + k → p q = false) → cP p (a + k) = cP p a
  | 0, _ => rfl
  | k + 1, h => by
    rw [← Nat.add_assoc]; show cP p (a + k) + _ = _
    rw [cP_gap p a k (fun q q1 q2 => h q q1 (by omega)), h (a + k) (by omega) (by omega)]; rfl
theorem cP_skip (p : Nat → Bool) {a b : Nat} (hab : a ≤ b) (h : ∀ q, a ≤ q → q < b → p q = false) : cP p b = cP p a := by
  have := cP_gap p a (b - a) (fun q q1 q2 => h q q1 (by omega))
  rwa [show a + (b - a) = b from by omega] at this
theorem cP_or (p q : Nat → Bool) : ∀ n, (∀ i, i < n → ¬ (p i = true ∧ q i = true)) → cP (fun i => p i || q i) n = cP p n + cP q n
  | 0, _ => rfl
  | n + 1, h => by
    show cP _ n + _ = cP p n + _ + (cP q n + _)
    rw [cP_or p q n (fun i hi => h i (by omega))]
    have := h n (by omega)
    cases hp : p n <;> cases hq : q n <;> simp_all <;> omega
theorem cP_congr {p q : Nat → Bool} : ∀ n, (∀ i, i < n → p i = q i) → cP p n = cP q n
  | 0, _ => rfl
  | n + 1, h => by
    show cP p n + _ = cP q n + _
    rw [cP_congr n (fun i hi => h i (by omega)), h n (by omega)]
theorem cP_none (p : Nat → Bool) (n : Nat) (h : ∀ i, i < n → p i = false) : cP p n = 0 := by
  have := cP_skip p (Nat.zero_le n) (fun q _ q2 => h q q2)
  rw [this]; rfl

/-- The place behind a node's close; a node's k-th child. -/
def behN (f : Nat → Bool) (n a : Nat) : Nat := (forthN f a n 0).toNat + 1
def kid (f : Nat → Bool) (n u : Nat) : Nat → Nat
  | 0 => u + 1
  | k + 1 => behN f n (kid f n u k)
/-- A node's children; how many they are. -/
def isKid (f : Nat → Bool) (u v : Nat) : Bool := f v && decide (backN f 0 v 1 = (u : Int))
def kids (f : Nat → Bool) (n u : Nat) : Nat := cP (isKid f u) n
section
variable {f : Nat → Bool} {n : Nat}
theorem Bal.behN (b : Bal f n) {u : Nat} (hu : f u = true) (hn : u < n) : u + 1 < behN f n u ∧ behN f n u ≤ n ∧ e0 f (behN f n u) = e0 f u ∧ (∀ q, u < q → q < behN f n u → e0 f u < e0 f q) ∧ f (behN f n u - 1) = false ∧ forthN f u n 0 = (L.behN f n u : Int) - 1 := by
  obtain ⟨m, h1, h2, h3, h4, h5, h6, _⟩ := b.close hu hn
  have e : L.behN f n u = m := by unfold L.behN; rw [h3]; omega
  rw [e]; exact ⟨h1, h2, h4, h5, h6, h3⟩
theorem isKid_told {u v : Nat} (b : Bal f n) (hv : v < n) (h : isKid f u v = true) : f v = true ∧ u < v ∧ f u = true ∧ e0 f v = e0 f u + 1 ∧ ∀ q, u < q → q ≤ v → e0 f v ≤ e0 f q := by
  unfold isKid at h
  simp only [Bool.and_eq_true, decide_eq_true_eq] at h
  rcases b.parent h.1 hv with ⟨h1, _⟩ | ⟨j, h1, h2, h3, h4, h5⟩
  · rw [h1] at h; omega
  · obtain rfl : j = u := by have := h.2; rw [h2] at this; omega
    exact ⟨h.1, h1, h3, h4, h5⟩
theorem isKid_is {u v : Nat} (hv : f v = true) (huv : u < v) (he : e0 f v = e0 f u + 1) (hq : ∀ q, u < q → q < v → e0 f u < e0 f q) : isKid f u v = true := by
  unfold isKid
  rw [hv, back_is f v u 1 huv (by rw [eb_e0 f u v (by omega)]; omega) (fun q q1 q2 => by rw [eb_e0 f q v (by omega)]; have := hq q q1 q2; omega)]
  simp
theorem kid_inv (b : Bal f n) {u : Nat} (hu : f u = true) (hn : u < n) : ∀ k, (∀ j, j < k → f (kid f n u j) = true) → u < kid f n u k ∧ kid f n u k < behN f n u ∧ e0 f (kid f n u k) = e0 f u + 1 ∧ cP (isKid f u) (kid f n u k) = k
  | 0, _ => by
    obtain ⟨h1, h2, h3, h4, h5, h6⟩ := b.behN hu hn
    refine ⟨Nat.lt_succ_self _, h1, ?_, cP_none _ _ (fun i hi => ?_)⟩
    · show e0 f (u + 1) = _
      rw [e0_node, hu]; rfl
    · cases hk : isKid f u i with
      | false => rfl
      | true => have := (isKid_told b (show i < n by have : i < u + 1 := hi; omega) hk).2.1; have : i < u + 1 := hi; omega
  | k + 1, h => by
    obtain ⟨h1, h2, h3, h4, h5, h6⟩ := b.behN hu hn
    obtain ⟨i1, i2, i3, i4⟩ := kid_inv b hu hn k (fun j hj => h j (by omega))
    have ha := h k (by omega)
    obtain ⟨a1, a2, a3, a4, a5, a6⟩ := b.behN ha (by omega)
    show u < behN f n (kid f n u k) ∧ behN f n (kid f n u k) < _ ∧ _
    rw [show kid f n u (k + 1) = behN f n (kid f n u k) from rfl]
    generalize kid f n u k = a at *
    generalize behN f n a = ma at *
    generalize behN f n u = mu at *
    have hlt : ma < mu := by
      refine Classical.byContradiction fun hc => ?_
      rcases Nat.eq_or_lt_of_le (show mu ≤ ma by omega) with e | e
      · subst e; omega
      · have := a4 mu (by omega) e; omega
    refine ⟨by omega, hlt, by omega, ?_⟩
    have hA : isKid f u a = true := isKid_is ha i1 (by omega) (fun q q1 q2 => h4 q q1 (by omega))
    have hg := cP_skip (isKid f u) (a := a + 1) (b := ma) (by omega) (fun q q1 q2 => by
      cases hk : isKid f u q with
      | false => rfl
      | true =>
        have h7 := (isKid_told b (by omega) hk).2.2.2.1
        have h8 := a4 q (by omega) q2
        omega)
    rw [hg]
    show cP (isKid f u) a + _ = _
    rw [i4, hA]; rfl
theorem kid_end (b : Bal f n) {u : Nat} (hu : f u = true) (hn : u < n) (k : Nat) (h : ∀ j, j < k → f (kid f n u j) = true) (hk : f (kid f n u k) = false) : kids f n u = k := by
  obtain ⟨h1, h2, h3, h4, h5, h6⟩ := b.behN hu hn
  obtain ⟨i1, i2, i3, i4⟩ := kid_inv b hu hn k h
  have hm : behN f n u = kid f n u k + 1 := by
    rcases Nat.lt_or_ge (kid f n u k + 1) (behN f n u) with e | e
    · have h7 := h4 (kid f n u k + 1) (by omega) e
      rw [e0_node, hk, i3] at h7
      simp at h7; omega
    · omega
  unfold kids
  rw [cP_skip (isKid f u) (a := kid f n u k) (b := n) (by omega) (fun q q1 q2 => by
    cases hq : isKid f u q with
    | false => rfl
    | true =>
      obtain ⟨g1, g2, g3, g4, g5⟩ := isKid_told b q2 hq
      rcases Nat.eq_or_lt_of_le q1 with e | e
      · rw [← e, hk] at g1; cases g1
      · have := g5 (behN f n u) (by omega) (by omega)
        omega), i4]
theorem kids_le (f : Nat → Bool) (n u : Nat) : kids f n u ≤ n := cP_le _ _
theorem kid_true (b : Bal f n) {u : Nat} (hu : f u = true) (hn : u < n) : ∀ k, k < kids f n u → f (kid f n u k) = true := by
  intro k
  induction k using Nat.strongRecOn with
  | _ k ih =>
    intro hk
    cases hf : f (kid f n u k) with
    | true => rfl
    | false =>
      have := kid_end b hu hn k (fun j hj => ih j hj (by omega)) hf
      omega
theorem kid_false (b : Bal f n) {u : Nat} (hu : f u = true) (hn : u < n) : f (kid f n u (kids f n u)) = false := by
  cases hf : f (kid f n u (kids f n u)) with
  | false => rfl
  | true =>
    have h := kid_inv b hu hn (kids f n u + 1) (fun j hj => by
      rcases Nat.eq_or_lt_of_le (show j ≤ kids f n u by omega) with e | e
      · rw [e]; exact hf
      · exact kid_true b hu hn j e)
    have h2 := (b.behN hu hn).2.1
    have h3 := cP_mono (isKid f u) (kid f n u (kids f n u + 1)) (n - kid f n u (kids f n u + 1))
    rw [h.2.2.2, show kid f n u (kids f n u + 1) + (n - kid f n u (kids f n u + 1)) = n from by omega] at h3
    have h4 : kids f n u = cP (isKid f u) n := rfl
    omega
theorem kid_lt (b : Bal f n) {u : Nat} (hu : f u = true) (hn : u < n) (k : Nat) (hk : k ≤ kids f n u) : u < kid f n u k ∧ kid f n u k < n := by
  have h := kid_inv b hu hn k (fun j hj => kid_true b hu hn j (by omega))
  have := (b.behN hu hn).2.1
  omega
/-- A node's children, with their numbers. -/
def chl (f : Nat → Bool) (n u : Nat) : List (Nat × Nat) := (List.range (kids f n u)).map fun k => (k, kid f n u k)
theorem chl_length (f : Nat → Bool) (n u : Nat) : (chl f n u).length = kids f n u := by simp [chl]
theorem chl_succ (f : Nat → Bool) (n u : Nat) {k : Nat} (h : k < kids f n u) : (chl f n u).take (k + 1) = (chl f n u).take k ++ [(k, kid f n u k)] := by
  rw [List.take_succ_eq_append_getElem (by rw [chl_length]; exact h)]
  congr 2
  unfold chl
  rw [List.getElem_map, List.getElem_range]
theorem chl_all (f : Nat → Bool) (n u : Nat) : (chl f n u).take (kids f n u) = chl f n u := List.take_of_length_le (by rw [chl_length]; exact Nat.le_refl _)

/-- The nodes whose parent is ahead of a place. -/
def cU (f : Nat → Bool) (n p : Nat) : Nat := cP (fun v => f v && (decide (0 ≤ backN f 0 v 1) && decide (backN f 0 v 1 < (p : Int)))) n
/-- The nodes at the top ahead of a place. -/
def cT (f : Nat → Bool) (p : Nat) : Nat := cP (fun v => f v && decide (e0 f v = 0)) p
theorem cU_zero (f : Nat → Bool) (n : Nat) : cU f n 0 = 0 := cP_none _ _ (fun i _ => by
  cases h1 : f i <;> simp only [Bool.false_and, Bool.true_and]
  by_cases h2 : 0 ≤ backN f 0 i 1
  · rw [decide_eq_false (show ¬ backN f 0 i 1 < ((0 : Nat) : Int) by omega), Bool.and_false]
  · rw [decide_eq_false h2, Bool.false_and])
theorem cU_succ (f : Nat → Bool) (n p : Nat) : cU f n (p + 1) = cU f n p + kids f n p := by
  unfold cU kids
  rw [← cP_or]
  · refine cP_congr _ (fun i _ => ?_)
    unfold isKid
    cases f i with
    | false => rfl
    | true =>
      rw [Bool.eq_iff_iff]
      simp only [Bool.true_and, Bool.and_eq_true, decide_eq_true_eq, Bool.or_eq_true]
      omega
  · intro i _ h
    unfold isKid at h
    simp only [Bool.and_eq_true, decide_eq_true_eq] at h
    omega
theorem kids_not (b : Bal f n) {p : Nat} (h : f p = false) : kids f n p = 0 := cP_none _ _ (fun i hi => by
  cases hk : isKid f p i with
  | false => rfl
  | true => have := (isKid_told b hi hk).2.2.1; rw [h] at this; cases this)
theorem cU_all (b : Bal f n) : cU f n n + cT f n = cP f n := by
  unfold cU cT
  rw [← cP_or]
  · refine cP_congr _ (fun i hi => ?_)
    cases hf : f i with
    | false => rfl
    | true =>
      rcases b.parent hf hi with ⟨h1, h2⟩ | ⟨j, h1, h2, h3, h4, h5⟩
      · rw [h1, h2]; rfl
      · rw [h2, decide_eq_true (show (0 : Int) ≤ (j : Int) by omega), decide_eq_true (show (j : Int) < (n : Int) by omega)]; rfl
  · intro i hi h
    simp only [Bool.and_eq_true, decide_eq_true_eq] at h
    rcases b.parent h.1.1 hi with ⟨h1, h2⟩ | ⟨j, h1, h2, h3, h4, h5⟩
    · rw [h1] at h; omega
    · have := b.nonneg j (by omega); omega
theorem e0_cP (f : Nat → Bool) : ∀ p, e0 f p = 2 * (cP f p : Nat) - p
  | 0 => by rw [e0_zero]; rfl
  | p + 1 => by
    rw [e0_node, e0_cP f p]
    show _ = 2 * ((cP f p + (f p).toNat : Nat) : Int) - _
    cases f p <;> simp <;> omega
end
theorem kc_cP (bs : List Bool) : ∀ p, p ≤ bs.length → kc true bs p = cP (bitAt bs) p
  | 0, _ => rfl
  | p + 1, h => by
    rw [kc_next true bs p (by omega), kc_cP bs p (by omega)]
    show _ = cP (bitAt bs) p + _
    cases bitAt bs p <;> rfl
end Go.Proofs.YtacllonekidocaaGreatDoor.L

/- Plain laws: nodes by their numbers: parents, neighbours, children in a list. No program in sight. -/

set_option linter.unusedVariables false
set_option linter.unusedSimpArgs false
namespace Go.Proofs.YtacllonekidocaaGreatDoor.L

theorem filt_len (p : Nat → Bool) : ∀ N, ((List.range N).filter p).length = cP p N
  | 0 => rfl
  | N + 1 => by
    rw [List.range_succ, List.filter_append, List.length_append, filt_len p N]
    show _ = cP p N + _
    cases h : p N <;> simp [h]
theorem cP_step (p : Nat → Bool) {i j : Nat} (hi : p i = true) (h : i < j) : cP p i < cP p j := by
  have h1 : cP p (i + 1) = cP p i + 1 := by show cP p i + _ = _; rw [hi]; rfl
  have h2 := cP_mono p (i + 1) (j - (i + 1))
  rw [show i + 1 + (j - (i + 1)) = j from by omega] at h2
  omega
theorem cP_inj (p : Nat → Bool) {i j : Nat} (hi : p i = true) (hj : p j = true) (h : cP p i = cP p j) : i = j := by
  rcases Nat.lt_trichotomy i j with e | e | e
  · have := cP_step p hi e; omega
  · exact e
  · have := cP_step p hj e; omega
theorem filt_at (p : Nat → Bool) : ∀ N i, i < N → p i = true → ((List.range N).filter p)[cP p i]? = some i
  | 0, i, h, _ => by omega
  | N + 1, i, h, hi => by
    rw [List.range_succ, List.filter_append]
    rcases Nat.eq_or_lt_of_le (show i ≤ N by omega) with e | e
    · subst e
      rw [List.getElem?_append_right (by rw [filt_len]; exact Nat.le_refl _), filt_len, Nat.sub_self]
      simp [hi]
    · have h1 := cP_step p hi e
      rw [List.getElem?_append_left (by rw [filt_len]; exact h1)]
      exact filt_at p N i e hi
theorem cP_ex (p : Nat → Bool) : ∀ N j, j < cP p N → ∃ i, i < N ∧ p i = true ∧ cP p i = j
  | 0, j, h => by simp [cP] at h
  | N + 1, j, h => by
    have h1 : cP p (N + 1) = cP p N + (p N).toNat := rfl
    rcases Nat.lt_or_ge j (cP p N) with e | e
    · obtain ⟨i, i1, i2, i3⟩ := cP_ex p N j e
      exact ⟨i, by omega, i2, i3⟩
    · cases hp : p N with
      | false => rw [hp] at h1; simp at h1; omega
      | true => rw [hp] at h1; simp at h1; exact ⟨N, by omega, hp, by omega⟩

/-- The number of a node's parent; -1 where there is none. -/
def paN (f : Nat → Bool) (v : Nat) : Int := if backN f 0 v 1 < 0 then -1 else (cP f (backN f 0 v 1).toNat : Nat)
/-- A node whose parent has that number. -/
def isS (f : Nat → Bool) (m : Int) (v : Nat) : Bool := f v && decide (paN f v = m)
theorem isS_iff {f : Nat → Bool} {m : Int} {v : Nat} : isS f m v = true ↔ f v = true ∧ paN f v = m := by unfold isS; simp
theorem isS_self {f : Nat → Bool} {v : Nat} (h : f v = true) : isS f (paN f v) v = true := isS_iff.2 ⟨h, rfl⟩
theorem paN_eq {f : Nat → Bool} {v q : Nat} (h : backN f 0 v 1 = backN f 0 q 1) : paN f v = paN f q := by unfold paN; rw [h]
theorem paN_none {f : Nat → Bool} {v : Nat} (h : backN f 0 v 1 = -1) : paN f v = -1 := by unfold paN; rw [h]; rfl
theorem paN_at {f : Nat → Bool} {v j : Nat} (h : backN f 0 v 1 = (j : Int)) : paN f v = (cP f j : Nat) := by
  unfold paN; rw [h, if_neg (by omega)]; simp
section
variable {f : Nat → Bool} {n : Nat}
theorem sib_back (b : Bal f n) {v q : Nat} (hv : f v = true) (hvn : v < n) (hq : f q = true) (hqn : q < n) (h : paN f q = paN f v) : backN f 0 q 1 = backN f 0 v 1 := by
  rcases b.parent hv hvn with ⟨h1, h2⟩ | ⟨j, h1, h2, h3, h4, h5⟩ <;> rcases b.parent hq hqn with ⟨g1, g2⟩ | ⟨k, g1, g2, g3, g4, g5⟩
  · rw [h1, g1]
  · rw [paN_none h1, paN_at g2] at h; omega
  · rw [paN_none g1, paN_at h2] at h; omega
  · rw [paN_at g2, paN_at h2] at h
    have := cP_inj f g3 h3 (by omega)
    rw [g2, h2, this]
/-- Those of one parent are as deep. -/
theorem sib_deep (b : Bal f n) {v q : Nat} (hv : f v = true) (hvn : v < n) (hq : f q = true) (hqn : q < n) (h : paN f q = paN f v) : e0 f q = e0 f v := by
  have h0 := sib_back b hv hvn hq hqn h
  rcases b.parent hv hvn with ⟨h1, h2⟩ | ⟨j, h1, h2, h3, h4, h5⟩ <;> rcases b.parent hq hqn with ⟨g1, g2⟩ | ⟨k, g1, g2, g3, g4, g5⟩
  · omega
  · omega
  · omega
  · have : k = j := by omega
    subst this; omega
theorem sib_beh (b : Bal f n) {v : Nat} (hv : f v = true) (hvn : v < n) : cP (isS f (paN f v)) (behN f n v) = cP (isS f (paN f v)) v + 1 := by
  obtain ⟨h1, h2, h3, h4, h5, h6⟩ := b.behN hv hvn
  rw [cP_skip (isS f (paN f v)) (a := v + 1) (b := behN f n v) (by omega) (fun q q1 q2 => by
    cases hs : isS f (paN f v) q with
    | false => rfl
    | true =>
      obtain ⟨s1, s2⟩ := isS_iff.1 hs
      have := sib_deep b hv hvn s1 (by omega) s2
      have := h4 q (by omega) q2
      omega)]
  show cP _ v + _ = _
  rw [isS_self hv]; rfl
theorem sib_next (b : Bal f n) {v : Nat} (hv : f v = true) (hvn : v < n) (hk : f (behN f n v) = true) (hkn : behN f n v < n) : paN f (behN f n v) = paN f v := by
  obtain ⟨h1, h2, h3, h4, h5, h6⟩ := b.behN hv hvn
  refine paN_eq ?_
  generalize behN f n v = k at *
  rcases b.parent hv hvn with ⟨g1, g2⟩ | ⟨j, g1, g2, g3, g4, g5⟩
  · rw [g1]
    rcases b.parent hk hkn with ⟨a1, a2⟩ | ⟨i, a1, a2, a3, a4, a5⟩
    · exact a1
    · have := b.nonneg i (by omega); omega
  · rw [g2]
    exact back_is f k j 1 (by omega) (by rw [eb_e0 f j k (by omega)]; omega) (fun q q1 q2 => by
      rw [eb_e0 f q k (by omega)]
      rcases Nat.lt_or_ge v q with e | e
      · have := h4 q e q2; omega
      · have := g5 q q1 e; omega)
theorem sib_last (b : Bal f n) {v : Nat} (hv : f v = true) (hvn : v < n) (hk : f (behN f n v) = false) : cP (isS f (paN f v)) n = cP (isS f (paN f v)) v + 1 := by
  rw [← sib_beh b hv hvn]
  obtain ⟨h1, h2, h3, h4, h5, h6⟩ := b.behN hv hvn
  generalize behN f n v = k at *
  refine cP_skip _ h2 (fun q q1 q2 => ?_)
  cases hs : isS f (paN f v) q with
  | false => rfl
  | true =>
    exfalso
    obtain ⟨s1, s2⟩ := isS_iff.1 hs
    have hd := sib_deep b hv hvn s1 q2 s2
    have hb := sib_back b hv hvn s1 q2 s2
    have hkq : k < q := by
      rcases Nat.eq_or_lt_of_le q1 with e | e
      · subst e; rw [hk] at s1; cases s1
      · exact e
    have he := e0_node f k
    rw [hk] at he
    simp at he
    rcases b.parent s1 q2 with ⟨g1, g2⟩ | ⟨j, g1, g2, g3, g4, g5⟩
    · have := b.nonneg (k + 1) (by omega); omega
    · have hjv : j < v := by
        rcases b.parent hv hvn with ⟨a1, a2⟩ | ⟨i, a1, a2, a3, a4, a5⟩
        · omega
        · omega
      have := g5 (k + 1) (by omega) (by omega)
      omega
/-- What is closed just ahead of a node stands beside it. -/
theorem sib_prev (b : Bal f n) {v : Nat} (hv : f v = true) (hvn : v < n) (h1 : 1 ≤ v) (h0 : f (v - 1) = false) : ∃ p, p < v ∧ backN f 0 v 0 = (p : Int) ∧ f p = true ∧ paN f p = paN f v ∧ cP (isS f (paN f v)) v = cP (isS f (paN f v)) p + 1 := by
  have he := e0_node f (v - 1)
  rw [h0, show v - 1 + 1 = v from by omega] at he
  simp at he
  have hsteps : ∀ a, a ≤ v - 1 → e0 f a ≤ e0 f v → ∃ q, a ≤ q ∧ q ≤ v - 1 ∧ e0 f q = e0 f v := fun a ha hle => by
    obtain ⟨q, q1, q2, q3⟩ := ivt (fun q => -(e0 f q)) (fun q => by have := e0_step f q; omega) (v - 1 - a) a (-(e0 f v)) (by omega) (by rw [show a + (v - 1 - a) = v - 1 from by omega]; omega)
    exact ⟨q, q1, by omega, by omega⟩
  rcases back_cases f v 0 with ⟨_, g2⟩ | ⟨j, g1, g2, g3, g4⟩
  · exfalso
    obtain ⟨q, q1, q2, q3⟩ := hsteps 0 (by omega) (by rw [e0_zero]; exact b.nonneg v (by omega))
    have := g2 q (by omega)
    rw [eb_e0 f q v (by omega)] at this
    omega
  · rw [eb_e0 f j v (by omega)] at g3
    have hgt : ∀ q, j < q → q < v → e0 f j < e0 f q := fun q q1 q2 => by
      refine Classical.byContradiction fun hc => ?_
      obtain ⟨r, r1, r2, r3⟩ := hsteps q (by omega) (by omega)
      have := g4 r (by omega) (by omega)
      rw [eb_e0 f r v (by omega)] at this
      omega
    have hjv : j < v - 1 := by
      rcases Nat.eq_or_lt_of_le (show j ≤ v - 1 by omega) with e | e
      · rw [e] at g3; omega
      · exact e
    have hj : f j = true := by
      have h5 := e0_node f j
      have h6 := hgt (j + 1) (by omega) (by omega)
      cases hf : f j with
      | true => rfl
      | false => rw [hf] at h5; simp at h5; omega
    obtain ⟨c1, c2, c3, c4, c5, c6⟩ := b.behN hj (by omega)
    have hb : behN f n j = v := by
      rcases Nat.lt_trichotomy (behN f n j) v with e | e | e
      · have := hgt (behN f n j) (by omega) e; omega
      · exact e
      · have := c4 v g1 e; omega
    have hp := sib_next b hj (by omega) (by rw [hb]; exact hv) (by omega)
    rw [hb] at hp
    have hc := sib_beh b hj (by omega)
    rw [hb, ← hp] at hc
    exact ⟨j, g1, g2, hj, hp.symm, hc⟩
theorem sib_first (b : Bal f n) {v : Nat} (hv : f v = true) (hvn : v < n) (h0 : v = 0 ∨ f (v - 1) = true) : cP (isS f (paN f v)) v = 0 := by
  rcases Nat.eq_zero_or_pos v with rfl | hp
  · rfl
  · have h1 : f (v - 1) = true := by
      rcases h0 with e | e
      · omega
      · exact e
    have he := e0_node f (v - 1)
    rw [h1, show v - 1 + 1 = v from by omega] at he
    simp at he
    have hb : backN f 0 v 1 = ((v - 1 : Nat) : Int) := back_is f v (v - 1) 1 (by omega) (by rw [eb_e0 f (v - 1) v (by omega)]; omega) (fun q q1 q2 => by omega)
    refine cP_none _ _ (fun q hq => ?_)
    cases hs : isS f (paN f v) q with
    | false => rfl
    | true =>
      exfalso
      obtain ⟨s1, s2⟩ := isS_iff.1 hs
      have hq2 := sib_back b hv hvn s1 (by omega) s2
      rcases b.parent s1 (by omega) with ⟨g1, g2⟩ | ⟨j, g1, g2, g3, g4, g5⟩
      · omega
      · omega
/-- A node's children are those whose parent has its number. -/
theorem isS_kid (b : Bal f n) {u v : Nat} (hu : f u = true) (hv : v < n) : isS f (cP f u : Nat) v = isKid f u v := by
  rw [Bool.eq_iff_iff, isS_iff]
  unfold isKid
  simp only [Bool.and_eq_true, decide_eq_true_eq]
  refine and_congr_right fun hf => ?_
  rcases b.parent hf hv with ⟨g1, g2⟩ | ⟨j, g1, g2, g3, g4, g5⟩
  · rw [paN_none g1, g1]; omega
  · rw [paN_at g2, g2]
    constructor
    · intro h; rw [cP_inj f g3 hu (by omega)]
    · intro h; rw [show j = u from by omega]
theorem cP_isS (b : Bal f n) {u : Nat} (hu : f u = true) (v : Nat) (hv : v ≤ n) : cP (isS f (cP f u : Nat)) v = cP (isKid f u) v := cP_congr v (fun i hi => isS_kid b hu (by omega))

/-- Counting nodes by numbers is counting them by places. -/
theorem cP_rank {P : Nat → Nat} {s : Nat → Bool} (hP : ∀ v, v < n → f v = true → P (cP f v) = v) (hs : ∀ v, s v = true → f v = true) : ∀ v, v ≤ n → cP (fun k => s (P k)) (cP f v) = cP s v
  | 0, _ => rfl
  | v + 1, h => by
    have h1 : cP f (v + 1) = cP f v + (f v).toNat := rfl
    have ih := cP_rank hP hs v (by omega)
    rw [h1]
    show _ = cP s v + _
    cases hf : f v with
    | true =>
      show cP _ (cP f v) + _ = _
      rw [ih]
      show cP s v + (s (P (cP f v))).toNat = _
      rw [hP v (by omega) hf]
    | false =>
      have : s v = false := by
        cases h2 : s v with
        | false => rfl
        | true => rw [hs v h2] at hf; cases hf
      rw [this]; exact ih
/-- The numbers of the nodes whose parent has that number. -/
def sibs (f : Nat → Bool) (P : Nat → Nat) (n : Nat) (m : Int) : List Nat := (List.range (cP f n)).filter fun k => isS f m (P k)
theorem sibs_len {P : Nat → Nat} (hP : ∀ v, v < n → f v = true → P (cP f v) = v) (m : Int) : (sibs f P n m).length = cP (isS f m) n := by
  unfold sibs
  rw [filt_len, cP_rank hP (fun v h => (isS_iff.1 h).1) n (Nat.le_refl _)]
theorem sibs_at {P : Nat → Nat} (hP : ∀ v, v < n → f v = true → P (cP f v) = v) {m : Int} {v : Nat} (hv : v < n) (h : isS f m v = true) : (sibs f P n m)[cP (isS f m) v]? = some (cP f v) := by
  have h1 := (isS_iff.1 h).1
  have h2 := filt_at (fun k => isS f m (P k)) (cP f n) (cP f v) (cP_step f h1 hv) (by show isS f m (P (cP f v)) = true; rw [hP v hv h1]; exact h)
  rw [cP_rank hP (fun v h => (isS_iff.1 h).1) v (by omega)] at h2
  exact h2
theorem sibs_kids (b : Bal f n) {P : Nat → Nat} (hP : ∀ v, v < n → f v = true → P (cP f v) = v) {u : Nat} (hu : f u = true) : (sibs f P n (cP f u : Nat)).length = kids f n u := by
  rw [sibs_len hP, cP_isS b hu n (Nat.le_refl _)]; rfl
theorem sibs_kid (b : Bal f n) {P : Nat → Nat} (hP : ∀ v, v < n → f v = true → P (cP f v) = v) {u : Nat} (hu : f u = true) (hun : u < n) {k : Nat} (hk : k < kids f n u) : (sibs f P n (cP f u : Nat))[k]? = some (cP f (kid f n u k)) := by
  have h1 := kid_lt b hu hun k (by omega)
  have h2 := kid_inv b hu hun k (fun j hj => kid_true b hu hun j (by omega))
  have h3 := (b.behN hu hun).2.2.2.1
  have h4 : isKid f u (kid f n u k) = true := isKid_is (kid_true b hu hun k hk) h2.1 h2.2.2.1 (fun q q1 q2 => h3 q q1 (by omega))
  rw [← isS_kid b hu h1.2] at h4
  have h5 := sibs_at hP h1.2 h4
  rw [cP_isS b hu _ (by omega), h2.2.2.2] at h5
  exact h5
/-- The numbers ahead of a node's own are others'. -/
theorem sibs_sooner {P : Nat → Nat} {m : Int} {i j : Nat} {x y : Nat} (hi : (sibs f P n m)[i]? = some x) (hj : (sibs f P n m)[j]? = some y) (h : i < j) : x ≠ y := by
  have hn : (sibs f P n m).Pairwise (· < ·) := List.Pairwise.filter _ (List.pairwise_lt_range)
  obtain ⟨hi1, rfl⟩ := List.getElem?_eq_some_iff.1 hi
  obtain ⟨hj1, rfl⟩ := List.getElem?_eq_some_iff.1 hj
  exact Nat.ne_of_lt (List.pairwise_iff_getElem.1 hn i j hi1 hj1 h)
end
end Go.Proofs.YtacllonekidocaaGreatDoor.L

/- Plain laws: the list of nodes that is made by a stack of open ones. No program in sight. -/

set_option linter.unusedVariables false
set_option linter.unusedSimpArgs false
namespace Go.Proofs.YtacllonekidocaaGreatDoor.L

/-- A node: its place, that of its end, its parent's number, its depth. -/
structure Nd where
  at' : Int
  en : Int
  pa : Int
  dp : Int
/-- A node as it stands in the list when so many bits are read. -/
def ndAt (f : Nat → Bool) (n i v : Nat) : Nd := ⟨v, if behN f n v ≤ i then (behN f n v : Int) - 1 else 0, paN f v, e0 f v⟩
structure NInv (f : Nat → Bool) (n i : Nat) (L : List Nd) (S : List Int) : Prop where
  len : L.length = cP f i
  slen : (S.length : Int) = e0 f i
  nd : ∀ v, v < i → f v = true → L[cP f v]? = some (ndAt f n i v)
  st : ∀ j : Nat, j < S.length → ∃ q : Nat, q < i ∧ f q = true ∧ e0 f q = (j : Int) ∧ (∀ r, q < r → r ≤ i → e0 f q < e0 f r) ∧ S[j]? = some ((cP f q : Nat) : Int)
theorem NInv.start (f : Nat → Bool) (n : Nat) : NInv f n 0 [] [] := ⟨rfl, by rw [e0_zero]; rfl, fun v h => by omega, fun j h => by simp at h⟩
section
variable {f : Nat → Bool} {n i : Nat} {L : List Nd} {S : List Int}
/-- The place behind a node's end is where the excess comes back. -/
theorem behN_is (b : Bal f n) {q m : Nat} (hq : f q = true) (hqm : q < m) (hm : m ≤ n) (he : e0 f m = e0 f q) (hg : ∀ r, q < r → r < m → e0 f q < e0 f r) : behN f n q = m := by
  obtain ⟨h1, h2, h3, h4, h5, h6⟩ := b.behN hq (by omega)
  rcases Nat.lt_trichotomy (behN f n q) m with e | e | e
  · have := hg _ (by omega) e; omega
  · exact e
  · have := h4 m hqm e; omega
theorem NInv.close (h : NInv f n i L S) (b : Bal f n) (hi : i < n) (hf : f i = false) : 0 < S.length ∧ ∃ q, q < i ∧ f q = true ∧ S[S.length - 1]? = some ((cP f q : Nat) : Int) ∧ cP f q < L.length ∧ L[cP f q]? = some (ndAt f n i q) ∧ NInv f n (i + 1) (L.set (cP f q) ⟨q, i, paN f q, e0 f q⟩) (S.take (S.length - 1)) := by
  have he := e0_node f i
  rw [hf] at he
  simp at he
  have h0 := b.nonneg (i + 1) (by omega)
  have hs := h.slen
  have hpos : 0 < S.length := by omega
  obtain ⟨q, q1, q2, q3, q4, q5⟩ := h.st (S.length - 1) (by omega)
  have hb : behN f n q = i + 1 := behN_is b q2 (by omega) (by omega) (by omega) (fun r r1 r2 => q4 r r1 (by omega))
  have hk : cP f q < L.length := by rw [h.len]; exact cP_step f q2 q1
  refine ⟨hpos, q, q1, q2, q5, hk, h.nd q q1 q2, ?_⟩
  refine ⟨?_, ?_, ?_, ?_⟩
  · rw [List.length_set, h.len]
    show _ = cP f i + _
    rw [hf]; rfl
  · rw [List.length_take]; omega
  · intro v v1 v2
    have hv : v < i := by
      rcases Nat.eq_or_lt_of_le (show v ≤ i by omega) with e | e
      · rw [e, hf] at v2; cases v2
      · exact e
    by_cases e : v = q
    · subst e
      rw [List.getElem?_set_self hk]
      unfold ndAt
      rw [hb, if_pos (Nat.le_refl _)]
      congr 2
      omega
    · rw [List.getElem?_set_ne (fun e2 => e (cP_inj f v2 q2 e2.symm)), h.nd v hv v2]
      unfold ndAt
      have hne : behN f n v ≠ i + 1 := fun e2 => by
        obtain ⟨h1, h2, h3, h4, h5, h6⟩ := b.behN v2 (by omega)
        rw [e2] at h3 h4
        rcases Nat.lt_or_ge v q with e3 | e3
        · have := h4 q e3 (by omega); omega
        · have := q4 v (by omega) (by omega); omega
      by_cases e3 : behN f n v ≤ i
      · rw [if_pos e3, if_pos (show behN f n v ≤ i + 1 by omega)]
      · rw [if_neg e3, if_neg (show ¬ behN f n v ≤ i + 1 by omega)]
  · intro j hj
    rw [List.length_take] at hj
    obtain ⟨r, r1, r2, r3, r4, r5⟩ := h.st j (by omega)
    refine ⟨r, by omega, r2, r3, fun t t1 t2 => ?_, by rw [List.getElem?_take_of_lt (by omega)]; exact r5⟩
    rcases Nat.eq_or_lt_of_le t2 with e | e
    · subst e; omega
    · exact r4 t t1 (by omega)
theorem NInv.opens (h : NInv f n i L S) (b : Bal f n) (hi : i < n) (hf : f i = true) : (S.length = 0 → paN f i = -1) ∧ (0 < S.length → S[S.length - 1]? = some (paN f i)) ∧ NInv f n (i + 1) (L ++ [⟨i, 0, paN f i, e0 f i⟩]) (S ++ [((cP f i : Nat) : Int)]) := by
  have he := e0_node f i
  rw [hf] at he
  simp at he
  have hs := h.slen
  have hc : cP f (i + 1) = cP f i + 1 := by show cP f i + _ = _; rw [hf]; rfl
  refine ⟨fun h0 => ?_, fun hp => ?_, ?_, ?_, ?_, ?_⟩
  · rcases b.parent hf hi with ⟨g1, g2⟩ | ⟨j, g1, g2, g3, g4, g5⟩
    · exact paN_none g1
    · have := b.nonneg j (by omega); omega
  · obtain ⟨q, q1, q2, q3, q4, q5⟩ := h.st (S.length - 1) (by omega)
    rw [q5, paN_at (back_is f i q 1 q1 (by rw [eb_e0 f q i (by omega)]; omega) (fun r r1 r2 => by
      rw [eb_e0 f r i (by omega)]
      have := q4 r r1 (by omega); omega))]
  · rw [List.length_append, h.len, hc]; rfl
  · rw [List.length_append]; simp; omega
  · intro v v1 v2
    rcases Nat.eq_or_lt_of_le (show v ≤ i by omega) with e | e
    · subst e
      rw [List.getElem?_append_right (by rw [h.len]; exact Nat.le_refl _), h.len, Nat.sub_self]
      obtain ⟨h1, _⟩ := b.behN hf hi
      unfold ndAt
      rw [if_neg (show ¬ behN f n v ≤ v + 1 by omega)]
      rfl
    · rw [List.getElem?_append_left (by rw [h.len]; exact cP_step f v2 e), h.nd v e v2]
      unfold ndAt
      have hne : behN f n v ≠ i + 1 := fun e2 => by
        obtain ⟨h1, h2, h3, h4, h5, h6⟩ := b.behN v2 (by omega)
        rw [e2, Nat.add_sub_cancel, hf] at h5; cases h5
      by_cases e3 : behN f n v ≤ i
      · rw [if_pos e3, if_pos (show behN f n v ≤ i + 1 by omega)]
      · rw [if_neg e3, if_neg (show ¬ behN f n v ≤ i + 1 by omega)]
  · intro j hj
    rw [List.length_append] at hj
    simp only [List.length_cons, List.length_nil] at hj
    rcases Nat.eq_or_lt_of_le (show j ≤ S.length by omega) with e | e
    · subst e
      refine ⟨i, by omega, hf, by omega, fun r r1 r2 => ?_, by rw [List.getElem?_append_right (Nat.le_refl _), Nat.sub_self]; rfl⟩
      rw [show r = i + 1 from by omega]; omega
    · obtain ⟨r, r1, r2, r3, r4, r5⟩ := h.st j e
      refine ⟨r, by omega, r2, r3, fun t t1 t2 => ?_, by rw [List.getElem?_append_left e]; exact r5⟩
      rcases Nat.eq_or_lt_of_le t2 with e2 | e2
      · subst e2
        have := r4 i r1 (Nat.le_refl _); omega
      · exact r4 t t1 (by omega)
/-- A node, all read. -/
def ndOf (f : Nat → Bool) (n v : Nat) : Nd := ⟨v, (behN f n v : Int) - 1, paN f v, e0 f v⟩
theorem NInv.done (h : NInv f n n L S) (b : Bal f n) {v : Nat} (hv : v < n) (hf : f v = true) : L[cP f v]? = some (ndOf f n v) := by
  rw [h.nd v hv hf]
  unfold ndAt ndOf
  rw [if_pos (b.behN hf hv).2.1]
end
end Go.Proofs.YtacllonekidocaaGreatDoor.L
