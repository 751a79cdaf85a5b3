/- The texts MathU, MathV, MathW, MathX, MathY, in one. -/
import Derived.Test.YtgpbpgpolpakjaaGreatDoorMaths
/- Plain laws: where a beginning, and an end, has an excess: what tells it. No program in sight. -/

set_option linter.unusedVariables false
set_option linter.unusedSimpArgs false
namespace Go.Proofs.YtgpbpgpolpakjaaGreatDoor.L

theorem fnd_first (g : Nat → Bool) (d : Int) : ∀ n j, 0 < j → j ≤ n → ex g j = d → (∀ q, 0 < q → q < j → ex g q ≠ d) → fnd g d n = j
  | 0, j, h0, hj, _, _ => by omega
  | n + 1, j, h0, hj, he, hq => by
    simp only [fnd]
    rcases Nat.lt_or_ge n j with h | h
    · obtain rfl : j = n + 1 := by omega
      have : fnd g d n = 0 := (fnd_none g d n).2 (fun k h1 h2 => hq k h1 (by omega))
      rw [if_neg (by simp [this]), if_pos he]
    · rw [fnd_first g d n j h0 h he hq, if_pos (by omega)]
theorem fnd_told (g : Nat → Bool) (d : Int) (n : Nat) (h : fnd g d n ≠ 0) : 0 < fnd g d n ∧ fnd g d n ≤ n ∧ ex g (fnd g d n) = d ∧ ∀ q, 0 < q → q < fnd g d n → ex g q ≠ d := by
  refine ⟨by omega, fnd_le g d n, fnd_ex g d n h, fun q h0 hq he => ?_⟩
  have hl := fnd_le g d n
  have hk := fnd_keep g d q (n - q) (fun hz => (fnd_none g d q).1 hz q h0 (Nat.le_refl _) he)
  rw [show q + (n - q) = n from by omega] at hk
  have := fnd_le g d q
  omega
theorem forth_cases (f : Nat → Bool) (a n : Nat) (d : Int) : (forthN f a n d = -1 ∧ ∀ q, a < q → q ≤ n → eb f a q ≠ d) ∨ ∃ m, a < m ∧ m ≤ n ∧ forthN f a n d = (m : Int) - 1 ∧ eb f a m = d ∧ ∀ q, a < q → q < m → eb f a q ≠ d := by
  by_cases h : fnd (sh f a) d (n - a) = 0
  · refine Or.inl ⟨forthN_none _ _ _ _ h, fun q h1 h2 => ?_⟩
    have := (fnd_none _ _ _).1 h (q - a) (by omega) (by omega)
    exact this
  · obtain ⟨t1, t2, t3, t4⟩ := fnd_told _ _ _ h
    refine Or.inr ⟨a + fnd (sh f a) d (n - a), by omega, by omega, ?_, ?_, fun q h1 h2 => t4 (q - a) (by omega) (by omega)⟩
    · unfold forthN; rw [if_neg h]; omega
    · unfold eb; rw [Nat.add_sub_cancel_left]; exact t3
theorem ex_rv_eb (f : Nat → Bool) (b m : Nat) (h : m ≤ b) : ex (rv f b) m = eb f (b - m) b := by
  have := ex_rv f (b - m) b (by omega)
  rw [show b - (b - m) = m from by omega] at this
  rw [this]; unfold eb; rw [show b - (b - m) = m from by omega]
theorem back_is (f : Nat → Bool) (b j : Nat) (d : Int) (h1 : j < b) (he : eb f j b = d) (hq : ∀ q, j < q → q < b → eb f q b ≠ d) : backN f 0 b d = (j : Int) := by
  have : fnd (rv f b) d (b - 0) = b - j := fnd_first _ _ _ _ (by omega) (by omega) (by rw [ex_rv_eb f b _ (by omega), show b - (b - j) = j from by omega]; exact he) (fun q q1 q2 => by
    rw [ex_rv_eb f b _ (by omega)]; exact hq (b - q) (by omega) (by omega))
  unfold backN
  rw [this, if_neg (by omega)]; omega
theorem back_cases (f : Nat → Bool) (b : Nat) (d : Int) : (backN f 0 b d = -1 ∧ ∀ q, q < b → eb f q b ≠ d) ∨ ∃ j, j < b ∧ backN f 0 b d = (j : Int) ∧ eb f j b = d ∧ ∀ q, j < q → q < b → eb f q b ≠ d := by
  by_cases h : fnd (rv f b) d (b - 0) = 0
  · refine Or.inl ⟨backN_none _ _ _ _ h, fun q h1 => ?_⟩
    have := (fnd_none _ _ _).1 h (b - q) (by omega) (by omega)
    rw [ex_rv_eb f b _ (by omega), show b - (b - q) = q from by omega] at this
    exact this
  · obtain ⟨t1, t2, t3, t4⟩ := fnd_told _ _ _ h
    refine Or.inr ⟨b - fnd (rv f b) d (b - 0), by omega, ?_, ?_, fun q h1 h2 => ?_⟩
    · unfold backN; rw [if_neg h]; omega
    · rw [ex_rv_eb f b _ (by omega)] at t3; exact t3
    · have := t4 (b - q) (by omega) (by omega)
      rw [ex_rv_eb f b _ (by omega), show b - (b - q) = q from by omega] at this
      exact this
theorem eb_succ (f : Nat → Bool) (a i : Nat) (h : a ≤ i) : eb f a (i + 1) = eb f a i + sgn (f i) := by
  unfold eb
  rw [show i + 1 - a = (i - a) + 1 from by omega]
  show ex (sh f a) (i - a) + sgn (sh f a (i - a)) = _
  unfold sh; rw [show a + (i - a) = i from by omega]
/-- Behind a ( that isn't closed the excess stays above. -/
theorem eb_above (f : Nat → Bool) (i : Nat) (hi : f i = true) : ∀ n, i < n → (∀ q, i < q → q ≤ n → eb f i q ≠ 0) → 0 < eb f i n
  | 0, h, _ => by omega
  | n + 1, h, hq => by
    rcases Nat.eq_or_lt_of_le (show i ≤ n from by omega) with h1 | h1
    · subst h1
      rw [eb_succ f i i (Nat.le_refl _), eb_self, hi]; decide
    · have ih := eb_above f i hi n h1 (fun q q1 q2 => hq q q1 (by omega))
      have h2 := hq (n + 1) (by omega) (by omega)
      have h3 := eb_succ f i n (by omega)
      have h4 := sgn_abs (f n)
      omega
/-- Where a ( is closed: its ) is none; the excess between is above; back it is found. -/
theorem close_props (f : Nat → Bool) (i m : Nat) (hi : f i = true) (h1 : i < m) (he : eb f i m = 0) (hq : ∀ q, i < q → q < m → eb f i q ≠ 0) :
    f (m - 1) = false ∧ i + 1 < m ∧ (∀ q, i < q → q < m → 0 < eb f i q) ∧ backN f 0 m 0 = (i : Int) := by
  have hi1 : eb f i (i + 1) = 1 := by rw [eb_succ f i i (Nat.le_refl _), eb_self, hi]; decide
  have hm : i + 1 < m := by
    rcases Nat.eq_or_lt_of_le (show i + 1 ≤ m from h1) with h | h
    · rw [← h, hi1] at he; omega
    · exact h
  have hpos : ∀ q, i < q → q < m → 0 < eb f i q := fun q q1 q2 => eb_above f i hi q q1 (fun r r1 r2 => hq r r1 (by omega))
  refine ⟨?_, hm, hpos, ?_⟩
  · have h2 := eb_succ f i (m - 1) (by omega)
    rw [show m - 1 + 1 = m from by omega, he] at h2
    have h3 := hpos (m - 1) (by omega) (by omega)
    cases hf : f (m - 1) with
    | false => rfl
    | true => rw [hf] at h2; simp [sgn] at h2; omega
  · refine back_is f m i 0 h1 he (fun q q1 q2 hz => ?_)
    have h2 := eb_add f i q m (by omega) (by omega)
    have h3 := hpos q q1 q2
    omega
end Go.Proofs.YtgpbpgpolpakjaaGreatDoor.L

/- Plain laws: nodes of a balanced row: their ends, their parents. No program in sight. -/

set_option linter.unusedVariables false
set_option linter.unusedSimpArgs false
namespace Go.Proofs.YtgpbpgpolpakjaaGreatDoor.L

/-- Steps of one take each number between. -/
theorem ivt (g : Nat → Int) (hg : ∀ q, g (q + 1) ≤ g q + 1 ∧ g q - 1 ≤ g (q + 1)) : ∀ n a v, v ≤ g a → g (a + n) ≤ v → ∃ q, a ≤ q ∧ q ≤ a + n ∧ g q = v
  | 0, a, v, h1, h2 => ⟨a, Nat.le_refl _, by omega, by rw [Nat.add_zero] at h2; omega⟩
  | n + 1, a, v, h1, h2 => by
    by_cases h : g a = v
    · exact ⟨a, Nat.le_refl _, by omega, h⟩
    · have h3 := hg a
      obtain ⟨q, q1, q2, q3⟩ := ivt g hg n (a + 1) v (by omega) (by rw [show a + 1 + n = a + (n + 1) from by omega]; exact h2)
      exact ⟨q, by omega, by omega, q3⟩
/-- The excess of the first bits. -/
def e0 (f : Nat → Bool) (q : Nat) : Int := eb f 0 q
theorem e0_step (f : Nat → Bool) (q : Nat) : e0 f (q + 1) ≤ e0 f q + 1 ∧ e0 f q - 1 ≤ e0 f (q + 1) := by
  have h1 := eb_succ f 0 q (Nat.zero_le _)
  have h2 := sgn_abs (f q)
  unfold e0; omega
theorem eb_e0 (f : Nat → Bool) (a b : Nat) (h : a ≤ b) : eb f a b = e0 f b - e0 f a := by
  have := eb_add f 0 a b (Nat.zero_le _) h
  unfold e0; omega
theorem e0_zero (f : Nat → Bool) : e0 f 0 = 0 := eb_self f 0
theorem e0_node (f : Nat → Bool) (q : Nat) : e0 f (q + 1) = e0 f q + (if f q then 1 else -1) := by
  have h1 := eb_succ f 0 q (Nat.zero_le _)
  unfold e0; rw [h1]; unfold sgn; rfl
/-- A balanced row. -/
structure Bal (f : Nat → Bool) (n : Nat) : Prop where
  nonneg : ∀ q, q ≤ n → 0 ≤ e0 f q
  all : e0 f n = 0
theorem Bal.of {f : Nat → Bool} {n : Nat} (h : bal f n = true) : Bal f n := by
  have h2 := (bal_iff f n).1 h
  have e : ∀ q, e0 f q = ex f q := fun q => by
    unfold e0 eb
    rw [Nat.sub_zero]
    exact ex_congr q (fun i _ => by unfold sh; rw [Nat.zero_add])
  exact ⟨fun q hq => by rw [e]; exact h2.2 q hq, by rw [e]; exact h2.1⟩
section
variable {f : Nat → Bool} {n : Nat}
/-- A node is closed. -/
theorem Bal.close (b : Bal f n) {u : Nat} (hu : f u = true) (hn : u < n) : ∃ m, u + 1 < m ∧ m ≤ n ∧ forthN f u n 0 = (m : Int) - 1 ∧ e0 f m = e0 f u ∧ (∀ q, u < q → q < m → e0 f u < e0 f q) ∧ f (m - 1) = false ∧ backN f 0 m 0 = (u : Int) := by
  rcases forth_cases f u n 0 with ⟨_, h2⟩ | ⟨m, h1, h2, h3, h4, h5⟩
  · have h3 := eb_above f u hu n hn h2
    rw [eb_e0 f u n (by omega), b.all] at h3
    have := b.nonneg u (by omega)
    omega
  · obtain ⟨c1, c2, c3, c4⟩ := close_props f u m hu h1 h4 h5
    refine ⟨m, c2, h2, h3, ?_, fun q q1 q2 => ?_, c1, c4⟩
    · rw [eb_e0 f u m (by omega)] at h4; omega
    · have := c3 q q1 q2; rw [eb_e0 f u q (by omega)] at this; omega
/-- A node has a parent, or stands at the top. -/
theorem Bal.parent (b : Bal f n) {u : Nat} (hu : f u = true) (hn : u < n) : (backN f 0 u 1 = -1 ∧ e0 f u = 0) ∨ ∃ j, j < u ∧ backN f 0 u 1 = (j : Int) ∧ f j = true ∧ e0 f u = e0 f j + 1 ∧ ∀ q, j < q → q ≤ u → e0 f u ≤ e0 f q := by
  rcases back_cases f u 1 with ⟨h1, h2⟩ | ⟨j, h1, h2, h3, h4⟩
  · refine Or.inl ⟨h1, Classical.byContradiction fun hne => ?_⟩
    have h0 := b.nonneg u (by omega)
    obtain ⟨q, q1, q2, q3⟩ := ivt (fun q => -(e0 f q)) (fun q => by have := e0_step f q; omega) u 0 (1 - e0 f u) (by rw [e0_zero]; omega) (by rw [Nat.zero_add]; omega)
    rcases Nat.eq_or_lt_of_le q2 with h | h
    · rw [Nat.zero_add] at h; subst h; omega
    · have := h2 q (by omega)
      rw [eb_e0 f q u (by omega)] at this
      exact this (by omega)
  · rw [eb_e0 f j u (by omega)] at h3
    have hmin : ∀ q, j < q → q ≤ u → e0 f u ≤ e0 f q := fun q q1 q2 => Classical.byContradiction fun hc => by
      obtain ⟨r, r1, r2, r3⟩ := ivt (fun q => -(e0 f q)) (fun q => by have := e0_step f q; omega) (u - q) q (1 - e0 f u) (by omega) (by rw [show q + (u - q) = u from by omega]; omega)
      rcases Nat.eq_or_lt_of_le (show r ≤ u by omega) with h | h
      · subst h; omega
      · have := h4 r (by omega) h
        rw [eb_e0 f r u (by omega)] at this
        exact this (by omega)
    refine Or.inr ⟨j, h1, h2, ?_, by omega, hmin⟩
    have h5 := e0_node f j
    have h6 := hmin (j + 1) (by omega) (by omega)
    cases hf : f j with
    | true => rfl
    | false => rw [hf] at h5; simp at h5; omega
/-- An ancestor of a node, or itself. -/
def Enc (f : Nat → Bool) (u y : Nat) : Prop := u ≤ y ∧ f u = true ∧ ∀ q, u < q → q ≤ y → e0 f u < e0 f q
theorem Enc.refl {y : Nat} (h : f y = true) : Enc f y y := ⟨Nat.le_refl _, h, fun q q1 q2 => by omega⟩
theorem Enc.up {u y j : Nat} (h : Enc f u y) (hj : j < u) (hf : f j = true) (he : e0 f u = e0 f j + 1) (hq : ∀ q, j < q → q ≤ u → e0 f u ≤ e0 f q) : Enc f j y := by
  refine ⟨by have := h.1; omega, hf, fun q q1 q2 => ?_⟩
  rcases Nat.lt_or_ge u q with h1 | h1
  · have := h.2.2 q h1 q2; omega
  · have := hq q q1 h1; omega
end
end Go.Proofs.YtgpbpgpolpakjaaGreatDoor.L

/- Plain laws: children of nodes of a balanced row. No program in sight. -/


set_option linter.unusedVariables false
set_option linter.unusedSimpArgs false
namespace Go.Proofs.YtgpbpgpolpakjaaGreatDoor.L

/-- How many of the first numbers are so. -/
def cP (p : Nat → Bool) : Nat → Nat
  | 0 => 0
  | n + 1 => cP p n + (p n).toNat
/-- The place behind a node's close; a node's k-th child. -/
def behN (f : Nat → Bool) (n a : Nat) : Nat := (forthN f a n 0).toNat + 1
section
variable {f : Nat → Bool} {n : Nat}
theorem Bal.behN (b : Bal f n) {u : Nat} (hu : f u = true) (hn : u < n) : u + 1 < behN f n u ∧ behN f n u ≤ n ∧ e0 f (behN f n u) = e0 f u ∧ (∀ q, u < q → q < behN f n u → e0 f u < e0 f q) ∧ f (behN f n u - 1) = false ∧ forthN f u n 0 = (L.behN f n u : Int) - 1 := by
  obtain ⟨m, h1, h2, h3, h4, h5, h6, _⟩ := b.close hu hn
  have e : L.behN f n u = m := by unfold L.behN; rw [h3]; omega
  rw [e]; exact ⟨h1, h2, h4, h5, h6, h3⟩
end
end Go.Proofs.YtgpbpgpolpakjaaGreatDoor.L

/- Plain laws: nodes by their numbers: parents, neighbours, children in a list. No program in sight. -/

set_option linter.unusedVariables false
set_option linter.unusedSimpArgs false
namespace Go.Proofs.YtgpbpgpolpakjaaGreatDoor.L

/-- The number of a node's parent; -1 where there is none. -/
def paN (f : Nat → Bool) (v : Nat) : Int := if backN f 0 v 1 < 0 then -1 else (cP f (backN f 0 v 1).toNat : Nat)
section
variable {f : Nat → Bool} {n : Nat}
end
end Go.Proofs.YtgpbpgpolpakjaaGreatDoor.L

/- Plain laws: the list of nodes that is made by a stack of open ones. No program in sight. -/

set_option linter.unusedVariables false
set_option linter.unusedSimpArgs false
namespace Go.Proofs.YtgpbpgpolpakjaaGreatDoor.L

/-- A node: its place, that of its end, its parent's number, its depth. -/
structure Nd where
  at' : Int
  en : Int
  pa : Int
  dp : Int
/-- A node as it stands in the list when so many bits are read. -/
def ndAt (f : Nat → Bool) (n i v : Nat) : Nd := ⟨v, if behN f n v ≤ i then (behN f n v : Int) - 1 else 0, paN f v, e0 f v⟩
structure NInv (f : Nat → Bool) (n i : Nat) (L : List Nd) (S : List Int) : Prop where
  len : L.length = cP f i
  slen : (S.length : Int) = e0 f i
  nd : ∀ v, v < i → f v = true → L[cP f v]? = some (ndAt f n i v)
  st : ∀ j : Nat, j < S.length → ∃ q : Nat, q < i ∧ f q = true ∧ e0 f q = (j : Int) ∧ (∀ r, q < r → r ≤ i → e0 f q < e0 f r) ∧ S[j]? = some ((cP f q : Nat) : Int)
theorem NInv.start (f : Nat → Bool) (n : Nat) : NInv f n 0 [] [] := ⟨rfl, by rw [e0_zero]; rfl, fun v h => by omega, fun j h => by simp at h⟩
section
variable {f : Nat → Bool} {n i : Nat} {L : List Nd} {S : List Int}
/-- A node, all read. -/
def ndOf (f : Nat → Bool) (n v : Nat) : Nd := ⟨v, (behN f n v : Int) - 1, paN f v, e0 f v⟩
theorem NInv.done (h : NInv f n n L S) (b : Bal f n) {v : Nat} (hv : v < n) (hf : f v = true) : L[cP f v]? = some (ndOf f n v) := by
  rw [h.nd v hv hf]
  unfold ndAt ndOf
  rw [if_pos (b.behN hf hv).2.1]
end
end Go.Proofs.YtgpbpgpolpakjaaGreatDoor.L
