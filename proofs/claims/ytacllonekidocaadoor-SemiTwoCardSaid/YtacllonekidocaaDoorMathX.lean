/- Plain laws: nodes by their numbers: parents, neighbours, children in a list. No program in sight. -/
import Derived.Test.YtacllonekidocaaDoorMathW
set_option linter.unusedVariables false
set_option linter.unusedSimpArgs false
namespace Go.Proofs.YtacllonekidocaaDoor.L

theorem filt_len (p : Nat → Bool) : ∀ N, ((List.range N).filter p).length = cP p N
  | 0 => rfl
  | N + 1 => by
    rw [List.range_succ, List.filter_append, List.length_append, filt_len p N]
    show _ = cP p N + _
    cases h : p N <;> simp [h]
theorem cP_step (p : Nat → Bool) {i j : Nat} (hi : p i = true) (h : i < j) : cP p i < cP p j := by
  have h1 : cP p (i + 1) = cP p i + 1 := by show cP p i + _ = _; rw [hi]; rfl
  have h2 := cP_mono p (i + 1) (j - (i + 1))
  rw [show i + 1 + (j - (i + 1)) = j from by omega] at h2
  omega
theorem cP_inj (p : Nat → Bool) {i j : Nat} (hi : p i = true) (hj : p j = true) (h : cP p i = cP p j) : i = j := by
  rcases Nat.lt_trichotomy i j with e | e | e
  · have := cP_step p hi e; omega
  · exact e
  · have := cP_step p hj e; omega
theorem filt_at (p : Nat → Bool) : ∀ N i, i < N → p i = true → ((List.range N).filter p)[cP p i]? = some i
  | 0, i, h, _ => by omega
  | N + 1, i, h, hi => by
    rw [List.range_succ, List.filter_append]
    rcases Nat.eq_or_lt_of_le (show i ≤ N by omega) with e | e
    · subst e
      rw [List.getElem?_append_right (by rw [filt_len]; exact Nat.le_refl _), filt_len, Nat.sub_self]
      simp [hi]
    · have h1 := cP_step p hi e
      rw [List.getElem?_append_left (by rw [filt_len]; exact h1)]
      exact filt_at p N i e hi
theorem cP_ex (p : Nat → Bool) : ∀ N j, j < cP p N → ∃ i, i < N ∧ p i = true ∧ cP p i = j
  | 0, j, h => by simp [cP] at h
  | N + 1, j, h => by
    have h1 : cP p (N + 1) = cP p N + (p N).toNat := rfl
    rcases Nat.lt_or_ge j (cP p N) with e | e
    · obtain ⟨i, i1, i2, i3⟩ := cP_ex p N j e
      exact ⟨i, by omega, i2, i3⟩
    · cases hp : p N with
      | false => rw [hp] at h1; simp at h1; omega
      | true => rw [hp] at h1; simp at h1; exact ⟨N, by omega, hp, by omega⟩

/-- The number of a node's parent; -1 where there is none. -/
def paN (f : Nat → Bool) (v : Nat) : Int := if backN f 0 v 1 < 0 then -1 else (cP f (backN f 0 v 1).toNat : Nat)
/-- A node whose parent has that number. -/
def isS (f : Nat → Bool) (m : Int) (v : Nat) : Bool := f v && decide (paN f v = m)
theorem isS_iff {f : Nat → Bool} {m : Int} {v : Nat} : isS f m v = true ↔ f v = true ∧ paN f v = m := by unfold isS; simp
theorem isS_self {f : Nat → Bool} {v : Nat} (h : f v = true) : isS f (paN f v) v = true := isS_iff.2 ⟨h, rfl⟩
theorem paN_eq {f : Nat → Bool} {v q : Nat} (h : backN f 0 v 1 = backN f 0 q 1) : paN f v = paN f q := by unfold paN; rw [h]
theorem paN_none {f : Nat → Bool} {v : Nat} (h : backN f 0 v 1 = -1) : paN f v = -1 := by unfold paN; rw [h]; rfl
theorem paN_at {f : Nat → Bool} {v j : Nat} (h : backN f 0 v 1 = (j : Int)) : paN f v = (cP f j : Nat) := by
  unfold paN; rw [h, if_neg (by omega)]; simp
section
variable {f : Nat → Bool} {n : Nat}
theorem sib_back (b : Bal f n) {v q : Nat} (hv : f v = true) (hvn : v < n) (hq : f q = true) (hqn : q < n) (h : paN f q = paN f v) : backN f 0 q 1 = backN f 0 v 1 := by
  rcases b.parent hv hvn with ⟨h1, h2⟩ | ⟨j, h1, h2, h3, h4, h5⟩ <;> rcases b.parent hq hqn with ⟨g1, g2⟩ | ⟨k, g1, g2, g3, g4, g5⟩
  · rw [h1, g1]
  · rw [paN_none h1, paN_at g2] at h; omega
  · rw [paN_none g1, paN_at h2] at h; omega
  · rw [paN_at g2, paN_at h2] at h
    have := cP_inj f g3 h3 (by omega)
    rw [g2, h2, this]
/-- Those of one parent are as deep. -/
theorem sib_deep (b : Bal f n) {v q : Nat} (hv : f v = true) (hvn : v < n) (hq : f q = true) (hqn : q < n) (h : paN f q = paN f v) : e0 f q = e0 f v := by
  have h0 := sib_back b hv hvn hq hqn h
  rcases b.parent hv hvn with ⟨h1, h2⟩ | ⟨j, h1, h2, h3, h4, h5⟩ <;> rcases b.parent hq hqn with ⟨g1, g2⟩ | ⟨k, g1, g2, g3, g4, g5⟩
  · omega
  · omega
  · omega
  · have : k = j := by omega
    subst this; omega
theorem sib_beh (b : Bal f n) {v : Nat} (hv : f v = true) (hvn : v < n) : cP (isS f (paN f v)) (behN f n v) = cP (isS f (paN f v)) v + 1 := by
  obtain ⟨h1, h2, h3, h4, h5, h6⟩ := b.behN hv hvn
  rw [cP_skip (isS f (paN f v)) (a := v + 1) (b := behN f n v) (by omega) (fun q q1 q2 => by
    cases hs : isS f (paN f v) q with
    | false => rfl
    | true =>
      obtain ⟨s1, s2⟩ := isS_iff.1 hs
      have := sib_deep b hv hvn s1 (by omega) s2
      have := h4 q (by omega) q2
      omega)]
  show cP _ v + _ = _
  rw [isS_self hv]; rfl
theorem sib_next (b : Bal f n) {v : Nat} (hv : f v = true) (hvn : v < n) (hk : f (behN f n v) = true) (hkn : behN f n v < n) : paN f (behN f n v) = paN f v := by
  obtain ⟨h1, h2, h3, h4, h5, h6⟩ := b.behN hv hvn
  refine paN_eq ?_
  generalize behN f n v = k at *
  rcases b.parent hv hvn with ⟨g1, g2⟩ | ⟨j, g1, g2, g3, g4, g5⟩
  · rw [g1]
    rcases b.parent hk hkn with ⟨a1, a2⟩ | ⟨i, a1, a2, a3, a4, a5⟩
    · exact a1
    · have := b.nonneg i (by omega); omega
  · rw [g2]
    exact back_is f k j 1 (by omega) (by rw [eb_e0 f j k (by omega)]; omega) (fun q q1 q2 => by
      rw [eb_e0 f q k (by omega)]
      rcases Nat.lt_or_ge v q with e | e
      · have := h4 q e q2; omega
      · have := g5 q q1 e; omega)
theorem sib_last (b : Bal f n) {v : Nat} (hv : f v = true) (hvn : v < n) (hk : f (behN f n v) = false) : cP (isS f (paN f v)) n = cP (isS f (paN f v)) v + 1 := by
  rw [← sib_beh b hv hvn]
  obtain ⟨h1, h2, h3, h4, h5, h6⟩ := b.behN hv hvn
  generalize behN f n v = k at *
  refine cP_skip _ h2 (fun q q1 q2 => ?_)
  cases hs : isS f (paN f v) q with
  | false => rfl
  | true =>
    exfalso
    obtain ⟨s1, s2⟩ := isS_iff.1 hs
    have hd := sib_deep b hv hvn s1 q2 s2
    have hb := sib_back b hv hvn s1 q2 s2
    have hkq : k < q := by
      rcases Nat.eq_or_lt_of_le q1 with e | e
      · subst e; rw [hk] at s1; cases s1
      · exact e
    have he := e0_node f k
    rw [hk] at he
    simp at he
    rcases b.parent s1 q2 with ⟨g1, g2⟩ | ⟨j, g1, g2, g3, g4, g5⟩
    · have := b.nonneg (k + 1) (by omega); omega
    · have hjv : j < v := by
        rcases b.parent hv hvn with ⟨a1, a2⟩ | ⟨i, a1, a2, a3, a4, a5⟩
        · omega
        · omega
      have := g5 (k + 1) (by omega) (by omega)
      omega
/-- What is closed just ahead of a node stands beside it. -/
theorem sib_prev (b : Bal f n) {v : Nat} (hv : f v = true) (hvn : v < n) (h1 : 1 ≤ v) (h0 : f (v - 1) = false) : ∃ p, p < v ∧ backN f 0 v 0 = (p : Int) ∧ f p = true ∧ paN f p = paN f v ∧ cP (isS f (paN f v)) v = cP (isS f (paN f v)) p + 1 := by
  have he := e0_node f (v - 1)
  rw [h0, show v - 1 + 1 = v from by omega] at he
  simp at he
  have hsteps : ∀ a, a ≤ v - 1 → e0 f a ≤ e0 f v → ∃ q, a ≤ q ∧ q ≤ v - 1 ∧ e0 f q = e0 f v := fun a ha hle => by
    obtain ⟨q, q1, q2, q3⟩ := ivt (fun q => -(e0 f q)) (fun q => by have := e0_step f q; omega) (v - 1 - a) a (-(e0 f v)) (by omega) (by rw [show a + (v - 1 - a) = v - 1 from by omega]; omega)
    exact ⟨q, q1, by omega, by omega⟩
  rcases back_cases f v 0 with ⟨_, g2⟩ | ⟨j, g1, g2, g3, g4⟩
  · exfalso
    obtain ⟨q, q1, q2, q3⟩ := hsteps 0 (by omega) (by rw [e0_zero]; exact b.nonneg v (by omega))
    have := g2 q (by omega)
    rw [eb_e0 f q v (by omega)] at this
    omega
  · rw [eb_e0 f j v (by omega)] at g3
    have hgt : ∀ q, j < q → q < v → e0 f j < e0 f q := fun q q1 q2 => by
      refine Classical.byContradiction fun hc => ?_
      obtain ⟨r, r1, r2, r3⟩ := hsteps q (by omega) (by omega)
      have := g4 r (by omega) (by omega)
      rw [eb_e0 f r v (by omega)] at this
      omega
    have hjv : j < v - 1 := by
      rcases Nat.eq_or_lt_of_le (show j ≤ v - 1 by omega) with e | e
      · rw [e] at g3; omega
      · exact e
    have hj : f j = true := by
      have h5 := e0_node f j
      have h6 := hgt (j + 1) (by omega) (by omega)
      cases hf : f j with
      | true => rfl
      | false => rw [hf] at h5; simp at h5; omega
    obtain ⟨c1, c2, c3, c4, c5, c6⟩ := b.behN hj (by omega)
    have hb : behN f n j = v := by
      rcases Nat.lt_trichotomy (behN f n j) v with e | e | e
      · have := hgt (behN f n j) (by omega) e; omega
      · exact e
      · have := c4 v g1 e; omega
    have hp := sib_next b hj (by omega) (by rw [hb]; exact hv) (by omega)
    rw [hb] at hp
    have hc := sib_beh b hj (by omega)
    rw [hb, ← hp] at hc
    exact ⟨j, g1, g2, hj, hp.symm, hc⟩
theorem sib_first (b : Bal f n) {v : Nat} (hv : f v = true) (hvn : v < n) (h0 : v = 0 ∨ f (v - 1) = true) : cP (isS f (paN f v)) v = 0 := by
  rcases Nat.eq_zero_or_pos v with rfl | hp
  · rfl
  · have h1 : f (v - 1) = true := by
      rcases h0 with e | e
      · omega
      · exact e
    have he := e0_node f (v - 1)
    rw [h1, show v - 1 + 1 = v from by omega] at he
    simp at he
    have hb : backN f 0 v 1 = ((v - 1 : Nat) : Int) := back_is f v (v - 1) 1 (by omega) (by rw [eb_e0 f (v - 1) v (by omega)]; omega) (fun q q1 q2 => by omega)
    refine cP_none _ _ (fun q hq => ?_)
    cases hs : isS f (paN f v) q with
    | false => rfl
    | true =>
      exfalso
      obtain ⟨s1, s2⟩ := isS_iff.1 hs
      have hq2 := sib_back b hv hvn s1 (by omega) s2
      rcases b.parent s1 (by omega) with ⟨g1, g2⟩ | ⟨j, g1, g2, g3, g4, g5⟩
      · omega
      · omega
/-- A node's children are those whose parent has its number. -/
theorem isS_kid (b : Bal f n) {u v : Nat} (hu : f u = true) (hv : v < n) : isS f (cP f u : Nat) v = isKid f u v := by
  rw [Bool.eq_iff_iff, isS_iff]
  unfold isKid
  simp only [Bool.and_eq_true, decide_eq_true_eq]
  refine and_congr_right fun hf => ?_
  rcases b.parent hf hv with ⟨g1, g2⟩ | ⟨j, g1, g2, g3, g4, g5⟩
  · rw [paN_none g1, g1]; omega
  · rw [paN_at g2, g2]
    constructor
    · intro h; rw [cP_inj f g3 hu (by omega)]
    · intro h; rw [show j = u from by omega]
theorem cP_isS (b : Bal f n) {u : Nat} (hu : f u = true) (v : Nat) (hv : v ≤ n) : cP (isS f (cP f u : Nat)) v = cP (isKid f u) v := cP_congr v (fun i hi => isS_kid b hu (by omega))

/-- Counting nodes by numbers is counting them by places. -/
theorem cP_rank {P : Nat → Nat} {s : Nat → Bool} (hP : ∀ v, v < n → f v = true → P (cP f v) = v) (hs : ∀ v, s v = true → f v = true) : ∀ v, v ≤ n → cP (fun k => s (P k)) (cP f v) = cP s v
  | 0, _ => rfl
  | v + 1, h => by
    have h1 : cP f (v + 1) = cP f v + (f v).toNat := rfl
    have ih := cP_rank hP hs v (by omega)
    rw [h1]
    show _ = cP s v + _
    cases hf : f v with
    | true =>
      show cP _ (cP f v) + _ = _
      rw [ih]
      show cP s v + (s (P (cP f v))).toNat = _
      rw [hP v (by omega) hf]
    | false =>
      have : s v = false := by
        cases h2 : s v with
        | false => rfl
        | true => rw [hs v h2] at hf; cases hf
      rw [this]; exact ih
/-- The numbers of the nodes whose parent has that number. -/
def sibs (f : Nat → Bool) (P : Nat → Nat) (n : Nat) (m : Int) : List Nat := (List.range (cP f n)).filter fun k => isS f m (P k)
theorem sibs_len {P : Nat → Nat} (hP : ∀ v, v < n → f v = true → P (cP f v) = v) (m : Int) : (sibs f P n m).length = cP (isS f m) n := by
  unfold sibs
  rw [filt_len, cP_rank hP (fun v h => (isS_iff.1 h).1) n (Nat.le_refl _)]
theorem sibs_at {P : Nat → Nat} (hP : ∀ v, v < n → f v = true → P (cP f v) = v) {m : Int} {v : Nat} (hv : v < n) (h : isS f m v = true) : (sibs f P n m)[cP (isS f m) v]? = some (cP f v) := by
  have h1 := (isS_iff.1 h).1
  have h2 := filt_at (fun k => isS f m (P k)) (cP f n) (cP f v) (cP_step f h1 hv) (by show isS f m (P (cP f v)) = true; rw [hP v hv h1]; exact h)
  rw [cP_rank hP (fun v h => (isS_iff.1 h).1) v (by omega)] at h2
  exact h2
theorem sibs_kids (b : Bal f n) {P : Nat → Nat} (hP : ∀ v, v < n → f v = true → P (cP f v) = v) {u : Nat} (hu : f u = true) : (sibs f P n (cP f u : Nat)).length = kids f n u := by
  rw [sibs_len hP, cP_isS b hu n (Nat.le_refl _)]; rfl
theorem sibs_kid (b : Bal f n) {P : Nat → Nat} (hP : ∀ v, v < n → f v = true → P (cP f v) = v) {u : Nat} (hu : f u = true) (hun : u < n) {k : Nat} (hk : k < kids f n u) : (sibs f P n (cP f u : Nat))[k]? = some (cP f (kid f n u k)) := by
  have h1 := kid_lt b hu hun k (by omega)
  have h2 := kid_inv b hu hun k (fun j hj => kid_true b hu hun j (by omega))
  have h3 := (b.behN hu hun).2.2.2.1
  have h4 : isKid f u (kid f n u k) = true := isKid_is (kid_true b hu hun k hk) h2.1 h2.2.2.1 (fun q q1 q2 => h3 q q1 (by omega))
  rw [← isS_kid b hu h1.2] at h4
  have h5 := sibs_at hP h1.2 h4
  rw [cP_isS b hu _ (by omega), h2.2.2.2] at h5
  exact h5
/-- The numbers ahead of a node's own are others'. -/
theorem sibs_sooner {P : Nat → Nat} {m : Int} {i j : Nat} {x y : Nat} (hi : (sibs f P n m)[i]? = some x) (hj : (sibs f P n m)[j]? = some y) (h : i < j) : x ≠ y := by
  have hn : (sibs f P n m).Pairwise (· < ·) := List.Pairwise.filter _ (List.pairwise_lt_range)
  obtain ⟨hi1, rfl⟩ := List.getElem?_eq_some_iff.1 hi
  obtain ⟨hj1, rfl⟩ := List.getElem?_eq_some_iff.1 hj
  exact Nat.ne_of_lt (List.pairwise_iff_getElem.1 hn i j hi1 hj1 h)
end
end Go.Proofs.YtacllonekidocaaDoor.L
