/- Plain laws: nodes of a balanced row: their ends, their parents. No program in sight. -/
import Derived.Test.YtacllonekidocaaDoorMathU
set_option linter.unusedVariables false
set_option linter.unusedSimpArgs false
namespace Go.Proofs.YtacllonekidocaaDoor.L

/-- Steps of one take each number between. -/
theorem ivt (g : Nat → Int) (hg : ∀ q, g (q + 1) ≤ g q + 1 ∧ g q - 1 ≤ g (q + 1)) : ∀ n a v, v ≤ g a → g (a + n) ≤ v → ∃ q, a ≤ q ∧ q ≤ a + n ∧ g q = v
  | 0, a, v, h1, h2 => ⟨a, Nat.le_refl _, by omega, by rw [Nat.add_zero] at h2; omega⟩
  | n + 1, a, v, h1, h2 => by
    by_cases h : g a = v
    · exact ⟨a, Nat.le_refl _, by omega, h⟩
    · have h3 := hg a
      obtain ⟨q, q1, q2, q3⟩ := ivt g hg n (a + 1) v (by omega) (by rw [show a + 1 + n = a + (n + 1) from by omega]; exact h2)
      exact ⟨q, by omega, by omega, q3⟩
/-- The excess of the first bits. -/
def e0 (f : Nat → Bool) (q : Nat) : Int := eb f 0 q
theorem e0_step (f : Nat → Bool) (q : Nat) : e0 f (q + 1) ≤ e0 f q + 1 ∧ e0 f q - 1 ≤ e0 f (q + 1) := by
  have h1 := eb_succ f 0 q (Nat.zero_le _)
  have h2 := sgn_abs (f q)
  unfold e0; omega
theorem eb_e0 (f : Nat → Bool) (a b : Nat) (h : a ≤ b) : eb f a b = e0 f b - e0 f a := by
  have := eb_add f 0 a b (Nat.zero_le _) h
  unfold e0; omega
theorem e0_zero (f : Nat → Bool) : e0 f 0 = 0 := eb_self f 0
theorem e0_node (f : Nat → Bool) (q : Nat) : e0 f (q + 1) = e0 f q + (if f q then 1 else -1) := by
  have h1 := eb_succ f 0 q (Nat.zero_le _)
  unfold e0; rw [h1]; unfold sgn; rfl
/-- A balanced row. -/
structure Bal (f : Nat → Bool) (n : Nat) : Prop where
  nonneg : ∀ q, q ≤ n → 0 ≤ e0 f q
  all : e0 f n = 0
theorem Bal.of {f : Nat → Bool} {n : Nat} (h : bal f n = true) : Bal f n := by
  have h2 := (bal_iff f n).1 h
  have e : ∀ q, e0 f q = ex f q := fun q => by
    unfold e0 eb
    rw [Nat.sub_zero]
    exact ex_congr q (fun i _ => by unfold sh; rw [Nat.zero_add])
  exact ⟨fun q hq => by rw [e]; exact h2.2 q hq, by rw [e]; exact h2.1⟩
section
variable {f : Nat → Bool} {n : Nat}
/-- A node is closed. -/
theorem Bal.close (b : Bal f n) {u : Nat} (hu : f u = true) (hn : u < n) : ∃ m, u + 1 < m ∧ m ≤ n ∧ forthN f u n 0 = (m : Int) - 1 ∧ e0 f m = e0 f u ∧ (∀ q, u < q → q < m → e0 f u < e0 f q) ∧ f (m - 1) = false ∧ backN f 0 m 0 = (u : Int) := by
  rcases forth_cases f u n 0 with ⟨_, h2⟩ | ⟨m, h1, h2, h3, h4, h5⟩
  · have h3 := eb_above f u hu n hn h2
    rw [eb_e0 f u n (by omega), b.all] at h3
    have := b.nonneg u (by omega)
    omega
  · obtain ⟨c1, c2, c3, c4⟩ := close_props f u m hu h1 h4 h5
    refine ⟨m, c2, h2, h3, ?_, fun q q1 q2 => ?_, c1, c4⟩
    · rw [eb_e0 f u m (by omega)] at h4; omega
    · have := c3 q q1 q2; rw [eb_e0 f u q (by omega)] at this; omega
/-- A node has a parent, or stands at the top. -/
theorem Bal.parent (b : Bal f n) {u : Nat} (hu : f u = true) (hn : u < n) : (backN f 0 u 1 = -1 ∧ e0 f u = 0) ∨ ∃ j, j < u ∧ backN f 0 u 1 = (j : Int) ∧ f j = true ∧ e0 f u = e0 f j + 1 ∧ ∀ q, j < q → q ≤ u → e0 f u ≤ e0 f q := by
  rcases back_cases f u 1 with ⟨h1, h2⟩ | ⟨j, h1, h2, h3, h4⟩
  · refine Or.inl ⟨h1, Classical.byContradiction fun hne => ?_⟩
    have h0 := b.nonneg u (by omega)
    obtain ⟨q, q1, q2, q3⟩ := ivt (fun q => -(e0 f q)) (fun q => by have := e0_step f q; omega) u 0 (1 - e0 f u) (by rw [e0_zero]; omega) (by rw [Nat.zero_add]; omega)
    rcases Nat.eq_or_lt_of_le q2 with h | h
    · rw [Nat.zero_add] at h; subst h; omega
    · have := h2 q (by omega)
      rw [eb_e0 f q u (by omega)] at this
      exact this (by omega)
  · rw [eb_e0 f j u (by omega)] at h3
    have hmin : ∀ q, j < q → q ≤ u → e0 f u ≤ e0 f q := fun q q1 q2 => Classical.byContradiction fun hc => by
      obtain ⟨r, r1, r2, r3⟩ := ivt (fun q => -(e0 f q)) (fun q => by have := e0_step f q; omega) (u - q) q (1 - e0 f u) (by omega) (by rw [show q + (u - q) = u from by omega]; omega)
      rcases Nat.eq_or_lt_of_le (show r ≤ u by omega) with h | h
      · subst h; omega
      · have := h4 r (by omega) h
        rw [eb_e0 f r u (by omega)] at this
        exact this (by omega)
    refine Or.inr ⟨j, h1, h2, ?_, by omega, hmin⟩
    have h5 := e0_node f j
    have h6 := hmin (j + 1) (by omega) (by omega)
    cases hf : f j with
    | true => rfl
    | false => rw [hf] at h5; simp at h5; omega
/-- Of two nodes, the later one within the earlier one: it is closed ahead of it. -/
theorem Bal.inside (b : Bal f n) {x y mx my : Nat} (hy : f y = true) (h1 : x < y) (h2 : y < mx) (hmx : mx ≤ n) (ex : e0 f mx = e0 f x) (hx : ∀ q, x < q → q < mx → e0 f x < e0 f q) (hmy : y + 1 < my) (ey : e0 f my = e0 f y) (hq : ∀ q, y < q → q < my → e0 f y < e0 f q) : my < mx := by
  refine Classical.byContradiction fun hc => ?_
  have h3 := hx y h1 h2
  rcases Nat.eq_or_lt_of_le (show mx ≤ my by omega) with h | h
  · subst h; omega
  · have h4 := hq mx (by omega) h
    omega
/-- An ancestor of a node, or itself. -/
def Enc (f : Nat → Bool) (u y : Nat) : Prop := u ≤ y ∧ f u = true ∧ ∀ q, u < q → q ≤ y → e0 f u < e0 f q
theorem Enc.refl {y : Nat} (h : f y = true) : Enc f y y := ⟨Nat.le_refl _, h, fun q q1 q2 => by omega⟩
theorem Enc.up {u y j : Nat} (h : Enc f u y) (hj : j < u) (hf : f j = true) (he : e0 f u = e0 f j + 1) (hq : ∀ q, j < q → q ≤ u → e0 f u ≤ e0 f q) : Enc f j y := by
  refine ⟨by have := h.1; omega, hf, fun q q1 q2 => ?_⟩
  rcases Nat.lt_or_ge u q with h1 | h1
  · have := h.2.2 q h1 q2; omega
  · have := hq q q1 h1; omega
theorem e0_le (f : Nat → Bool) (q : Nat) : e0 f q ≤ q := by have := eb_abs f 0 q; unfold e0; omega
/-- The excess is no greater than half the row. -/
theorem Bal.half (b : Bal f n) (q : Nat) (h : q ≤ n) : 2 * e0 f q ≤ n := by
  have h1 := e0_le f q
  have h2 := eb_abs f q n
  rw [eb_e0 f q n h, b.all] at h2
  omega
end
end Go.Proofs.YtacllonekidocaaDoor.L
