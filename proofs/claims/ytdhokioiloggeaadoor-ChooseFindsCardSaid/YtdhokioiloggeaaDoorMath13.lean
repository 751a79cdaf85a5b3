/- Plain laws: the place of the k-th bit of a kind, as the reference looks for it. No program in sight. -/
import Derived.Test.YtdhokioiloggeaaDoorMath12
set_option linter.unusedVariables false
set_option linter.unusedSimpArgs false
namespace Go.Proofs.YtdhokioiloggeaaDoor.L

/-- The first of n places that is of the kind, with k ahead of it; -1. -/
def plTo (t : Bool) (bs : List Bool) (k : Int) : Nat → Int
  | 0 => -1
  | n + 1 => if 0 ≤ plTo t bs k n then plTo t bs k n else if n < bs.length ∧ bitAt bs n = t ∧ (kc t bs n : Int) = k then n else -1
def pl (t : Bool) (bs : List Bool) (k : Int) : Int := plTo t bs k bs.length
theorem plTo_eq (t : Bool) (bs : List Bool) (p : Nat) (k : Int) (hp : p < bs.length) (hb : bitAt bs p = t) (hk : (kc t bs p : Int) = k) : ∀ n, plTo t bs k n = if p < n then (p : Int) else -1
  | 0 => by simp [plTo]
  | n + 1 => by
    simp only [plTo]
    rw [plTo_eq t bs p k hp hb hk n]
    by_cases h1 : p < n
    · rw [if_pos h1, if_pos (show (0 : Int) ≤ (p : Int) by omega), if_pos (show p < n + 1 by omega)]
    · rw [if_neg h1, if_neg (show ¬ ((0 : Int) ≤ -1) by omega)]
      by_cases h2 : p = n
      · subst h2; rw [if_pos ⟨hp, hb, hk⟩, if_pos (show p < p + 1 by omega)]
      · rw [if_neg (show ¬ (p < n + 1) by omega), if_neg]
        intro ⟨h3, h4, h5⟩
        exact h2 (kc_unique t bs p n hp h3 hb h4 (by omega))
theorem pl_eq (t : Bool) (bs : List Bool) (p : Nat) (k : Int) (hp : p < bs.length) (hb : bitAt bs p = t) (hk : (kc t bs p : Int) = k) : pl t bs k = p := by
  unfold pl; rw [plTo_eq t bs p k hp hb hk, if_pos hp]
theorem plTo_none (t : Bool) (bs : List Bool) (k : Int) (h : k < 0 ∨ (kc t bs bs.length : Int) ≤ k) : ∀ n, plTo t bs k n = -1
  | 0 => rfl
  | n + 1 => by
    simp only [plTo]
    rw [plTo_none t bs k h n, if_neg (show ¬ ((0 : Int) ≤ -1) by omega), if_neg]
    intro ⟨h1, h2, h3⟩
    have := kc_step t bs n bs.length h1 h1 h2
    omega
theorem pl_none (t : Bool) (bs : List Bool) (k : Int) (h : k < 0 ∨ (kc t bs bs.length : Int) ≤ k) : pl t bs k = -1 := plTo_none t bs k h _
/-- The two ways. -/
theorem pl_ways (t : Bool) (bs : List Bool) (k : Int) : ((k < 0 ∨ (kc t bs bs.length : Int) ≤ k) ∧ pl t bs k = -1) ∨ ∃ (p n : Nat), k = (n : Int) ∧ p < bs.length ∧ bitAt bs p = t ∧ kc t bs p = n ∧ pl t bs k = p := by
  by_cases h : k < 0 ∨ (kc t bs bs.length : Int) ≤ k
  · exact Or.inl ⟨h, pl_none t bs k h⟩
  · obtain ⟨n, rfl⟩ := Int.eq_ofNat_of_zero_le (show 0 ≤ k by omega)
    obtain ⟨p, _, hp, hb, hk⟩ := kc_exists t bs n bs.length (by omega)
    exact Or.inr ⟨p, n, rfl, hp, hb, hk, pl_eq t bs p _ hp hb (by omega)⟩
/-- Where each bit is the other one. -/
theorem kc_not (bs : List Bool) (t : Bool) (n : Nat) : kc t (bs.map (!·)) n = kc (!t) bs n := by
  induction n with
  | zero => rfl
  | succ n ih =>
    simp only [kc, ih, List.length_map]
    by_cases h : n < bs.length
    · have e : bitAt (bs.map (!·)) n = !bitAt bs n := by
        unfold bitAt; rw [List.getElem?_map, List.getElem?_eq_getElem h]; rfl
      rw [e]; cases bitAt bs n <;> cases t <;> rfl
    · have : decide (n < bs.length) = false := by simpa using h
      rw [this]; rfl
theorem plTo_not (bs : List Bool) (t : Bool) (k : Int) (n : Nat) : plTo t (bs.map (!·)) k n = plTo (!t) bs k n := by
  induction n with
  | zero => rfl
  | succ n ih =>
    simp only [plTo, ih, kc_not, List.length_map]
    by_cases h0 : 0 ≤ plTo (!t) bs k n
    · rw [if_pos h0, if_pos h0]
    · rw [if_neg h0, if_neg h0]
      by_cases h : n < bs.length
      · have e : bitAt (bs.map (!·)) n = !bitAt bs n := by
          unfold bitAt; rw [List.getElem?_map, List.getElem?_eq_getElem h]; rfl
        have e2 : (bitAt (bs.map (!·)) n = t) ↔ (bitAt bs n = !t) := by rw [e]; cases bitAt bs n <;> cases t <;> simp
        by_cases h3 : bitAt bs n = (!t) ∧ (kc (!t) bs n : Int) = k
        · rw [if_pos ⟨h, e2.2 h3.1, h3.2⟩, if_pos ⟨h, h3⟩]
        · rw [if_neg (fun h4 => h3 ⟨e2.1 h4.2.1, h4.2.2⟩), if_neg (fun h4 => h3 h4.2)]
      · rw [if_neg (fun h2 => h h2.1), if_neg (fun h2 => h h2.1)]
theorem pl_not (bs : List Bool) (t : Bool) (k : Int) : pl t (bs.map (!·)) k = pl (!t) bs k := by
  unfold pl; rw [List.length_map, plTo_not]
theorem kc_next (t : Bool) (bs : List Bool) (n : Nat) (h : n < bs.length) : kc t bs (n + 1) = kc t bs n + (bitAt bs n == t).toNat := by
  simp only [kc]
  have : decide (n < bs.length) = true := by simpa using h
  rw [this, Bool.true_and]
theorem plTo_next (t : Bool) (bs : List Bool) (k : Int) (n : Nat) (h : n < bs.length) (h0 : plTo t bs k n = -1) : plTo t bs k (n + 1) = if bitAt bs n = t ∧ (kc t bs n : Int) = k then (n : Int) else -1 := by
  simp only [plTo]
  rw [h0, if_neg (show ¬ ((0 : Int) ≤ -1) by omega)]
  by_cases h1 : bitAt bs n = t ∧ (kc t bs n : Int) = k
  · rw [if_pos ⟨h, h1⟩, if_pos h1]
  · rw [if_neg (fun h2 => h1 h2.2), if_neg h1]

end Go.Proofs.YtdhokioiloggeaaDoor.L
