/- Plain laws: where a row's bits of one kind are; the blocks that a chooser notes. No program in sight. -/
import Derived.Test.YtlpnbkfcbamnbaaDoorMath4
import Derived.Test.YtlpnbkfcbamnbaaDoorMath6
import Derived.Test.YtlpnbkfcbamnbaaDoorMath11
set_option linter.unusedVariables false
set_option linter.unusedSimpArgs false
namespace Go.Proofs.YtlpnbkfcbamnbaaDoor.L

/-- How many of a row's first n bits are of one kind. -/
def kc (t : Bool) (bs : List Bool) : Nat → Nat
  | 0 => 0
  | n + 1 => kc t bs n + (decide (n < bs.length) && (bitAt bs n == t)).toNat

theorem kc_le (t : Bool) (bs : List Bool) (n : Nat) : kc t bs n ≤ n := by
  induction n with
  | zero => simp [kc]
  | succ n ih => have := Bool.toNat_le (decide (n < bs.length) && (bitAt bs n == t)); simp only [kc]; omega
theorem kc_mono (t : Bool) (bs : List Bool) {a b : Nat} (h : a ≤ b) : kc t bs a ≤ kc t bs b := by
  induction b with
  | zero => have : a = 0 := by omega
            subst this; exact Nat.le_refl _
  | succ b ih =>
    rcases Nat.lt_or_ge a (b + 1) with h1 | h1
    · have := ih (by omega); simp only [kc]; omega
    · have : a = b + 1 := by omega
      subst this; exact Nat.le_refl _
theorem kc_diff (t : Bool) (bs : List Bool) (a n : Nat) : kc t bs (a + n) ≤ kc t bs a + n := by
  induction n with
  | zero => simp
  | succ n ih => have := Bool.toNat_le (decide (a + n < bs.length) && (bitAt bs (a + n) == t)); rw [← Nat.add_assoc]; simp only [kc]; omega
theorem kc_ge (t : Bool) (bs : List Bool) (n : Nat) (h : bs.length ≤ n) : kc t bs n = kc t bs bs.length := by
  induction n with
  | zero => have : bs.length = 0 := by omega
            rw [this]
  | succ n ih =>
    rcases Nat.lt_or_ge n bs.length with h1 | h1
    · have : bs.length = n + 1 := by omega
      rw [this]
    · simp only [kc]
      have : decide (n < bs.length) = false := by simp; omega
      rw [this, ih h1]; rfl
theorem kc_true (bs : List Bool) (n : Nat) : kc true bs n = cnt bs n := by
  induction n with
  | zero => rfl
  | succ n ih =>
    simp only [kc, cnt, ih]
    by_cases h : n < bs.length
    · have : decide (n < bs.length) = true := by simpa using h
      rw [this, Bool.true_and]; cases bitAt bs n <;> rfl
    · have : decide (n < bs.length) = false := by simpa using h
      rw [this, bitAt_ge bs n (by omega)]; rfl
theorem kc_false (bs : List Bool) (n : Nat) (hn : n ≤ bs.length) : kc false bs n = n - cnt bs n := by
  induction n with
  | zero => rfl
  | succ n ih =>
    have hc := cnt_le bs n
    simp only [kc, cnt, ih (by omega)]
    have : decide (n < bs.length) = true := by simp; omega
    rw [this, Bool.true_and]
    cases bitAt bs n <;> simp <;> omega
/-- What ranks tell. -/
theorem kc_one (bs : List Bool) (i : Nat) : cnt bs (held bs.length (i : Int)) = kc true bs i := by
  rw [kc_true]
  rcases Nat.lt_or_ge bs.length i with h | h
  · rw [show held bs.length (i : Int) = bs.length from by unfold held; omega, cnt_ge bs i (by omega)]
  · rw [held_nat _ _ h]
theorem kc_zero (bs : List Bool) (i : Nat) : held bs.length (i : Int) - cnt bs (held bs.length (i : Int)) = kc false bs i := by
  rcases Nat.lt_or_ge bs.length i with h | h
  · rw [show held bs.length (i : Int) = bs.length from by unfold held; omega, kc_ge false bs i (by omega), kc_false bs _ (Nat.le_refl _)]
  · rw [held_nat _ _ h, kc_false bs _ h]
theorem kc_both (bs : List Bool) : kc true bs bs.length + kc false bs bs.length = bs.length := by
  rw [kc_true, kc_false bs _ (Nat.le_refl _)]
  have := cnt_le bs bs.length
  omega

/-- The bits of one kind in a row's word. -/
def KWord (t : Bool) (bs : List Bool) (q v : Nat) : Prop := ∀ j, j < 64 → v.testBit j = (decide (64 * q + j < bs.length) && (bitAt bs (64 * q + j) == t))
theorem kword_cnt {t : Bool} {bs : List Bool} {q v : Nat} (h : KWord t bs q v) (n : Nat) (hn : n ≤ 64) : kc t bs (64 * q + n) = kc t bs (64 * q) + onesTo v n := by
  induction n with
  | zero => rfl
  | succ n ih =>
    have e := ih (by omega)
    rw [← Nat.add_assoc]
    simp only [kc, onesTo]
    rw [e, h n (by omega)]; omega
theorem kword_one (bs : List Bool) (q : Nat) : KWord true bs q (wordAt bs q) := fun j hj => by
  rw [wordAt_testBit]
  have : decide (j < 64) = true := by simpa using hj
  rw [this, Bool.true_and]
  by_cases h : 64 * q + j < bs.length
  · have : decide (64 * q + j < bs.length) = true := by simpa using h
    rw [this, Bool.true_and]; cases bitAt bs (64 * q + j) <;> rfl
  · rw [bitAt_ge bs _ (by omega)]; simp
/-- The complement of a word. -/
def comp (v : Nat) : Nat := 18446744073709551615 - v
theorem p64 : (2 : Nat) ^ 64 = 18446744073709551616 := by decide
theorem comp_bit (v j : Nat) (hv : v < 18446744073709551616) (hj : j < 64) : (comp v).testBit j = !v.testBit j := by
  have hp := p64
  have e : (18446744073709551615 : Nat) - v = 2 ^ 64 - (v + 1) := by omega
  unfold comp
  rw [e, Nat.testBit_two_pow_sub_succ (by omega)]
  have : decide (j < 64) = true := by simpa using hj
  rw [this, Bool.true_and]
theorem comp_lt (v : Nat) : comp v < 18446744073709551616 := by unfold comp; omega
theorem kword_zero (bs : List Bool) (q : Nat) (hq : 64 * q < bs.length) : KWord false bs q (fieldN (comp (wordAt bs q)) 0 ((bs.length : Int) - ((64 * q : Nat) : Int))) := fun j hj => by
  have hw := wordAt_lt bs q
  unfold fieldN
  rw [if_neg (by omega), if_neg (by omega), Nat.testBit_mod_two_pow, Nat.testBit_div_two_pow, Int.toNat_zero, Nat.add_zero, comp_bit _ _ hw hj, wordAt_testBit]
  have h64 : decide (j < 64) = true := by simpa using hj
  rw [h64, Bool.true_and]
  have hd : decide (j < clampN ((bs.length : Int) - ((64 * q : Nat) : Int))) = decide (64 * q + j < bs.length) := by
    rw [Bool.eq_iff_iff, decide_eq_true_eq, decide_eq_true_eq]; unfold clampN; omega
  rw [hd]
  cases bitAt bs (64 * q + j) <;> simp

/-- The place of the k-th bit of a kind is the one that is of the kind, with k ahead of it. -/
theorem kc_step (t : Bool) (bs : List Bool) (p q : Nat) (h : p < q) (hp : p < bs.length) (hb : bitAt bs p = t) : kc t bs p < kc t bs q := by
  have h1 : kc t bs (p + 1) = kc t bs p + 1 := by
    simp only [kc]
    have : decide (p < bs.length) = true := by simpa using hp
    rw [this, hb]; simp
  have h2 := kc_mono t bs (show p + 1 ≤ q by omega)
  omega
theorem kc_unique (t : Bool) (bs : List Bool) (p q : Nat) (hp : p < bs.length) (hq : q < bs.length) (hbp : bitAt bs p = t) (hbq : bitAt bs q = t) (h : kc t bs p = kc t bs q) : p = q := by
  rcases Nat.lt_trichotomy p q with h1 | h1 | h1
  · have := kc_step t bs p q h1 hp hbp; omega
  · exact h1
  · have := kc_step t bs q p h1 hq hbq; omega
theorem kc_exists (t : Bool) (bs : List Bool) (k : Nat) : ∀ n, k < kc t bs n → ∃ p, p < n ∧ p < bs.length ∧ bitAt bs p = t ∧ kc t bs p = k
  | 0, h => by simp [kc] at h
  | n + 1, h => by
    by_cases h1 : k < kc t bs n
    · obtain ⟨p, hp, h2⟩ := kc_exists t bs k n h1
      exact ⟨p, by omega, h2⟩
    · simp only [kc] at h
      have hb : (decide (n < bs.length) && (bitAt bs n == t)) = true := by
        cases hb : (decide (n < bs.length) && (bitAt bs n == t))
        · rw [hb] at h; simp at h; omega
        · rfl
      rw [hb] at h
      simp at h
      rw [Bool.and_eq_true, decide_eq_true_eq, beq_iff_eq] at hb
      exact ⟨n, by omega, hb.1, hb.2, by omega⟩

/-- What a chooser notes of a kind, of a row's first p bits. -/
def Half (t : Bool) (bs : List Bool) (p : Nat) (l : List Nat) : Prop :=
  l.length = (kc t bs p + 255) / 256 ∧ ∀ j x, l[j]? = some x → 512 * x < bs.length ∧ kc t bs (512 * x) ≤ 256 * j ∧ 256 * j < kc t bs (512 * (x + 1))
theorem half_nil (t : Bool) (bs : List Bool) : Half t bs 0 [] := ⟨by simp [kc], fun j x h => by simp at h⟩
theorem half_keep {t : Bool} {bs : List Bool} {q : Nat} {l : List Nat} (h : Half t bs (64 * q) l) (hc : ¬ (kc t bs (64 * q) + 255) / 256 * 256 < kc t bs (64 * q + 64)) : Half t bs (64 * q + 64) l := by
  have h1 := kc_mono t bs (show 64 * q ≤ 64 * q + 64 by omega)
  exact ⟨by rw [h.1]; omega, h.2⟩
theorem half_note {t : Bool} {bs : List Bool} {q : Nat} {l : List Nat} (h : Half t bs (64 * q) l) (hq : 64 * q < bs.length) (hc : (kc t bs (64 * q) + 255) / 256 * 256 < kc t bs (64 * q + 64)) : Half t bs (64 * q + 64) (l ++ [64 * q / 512]) := by
  have h1 := kc_diff t bs (64 * q) 64
  refine ⟨by rw [List.length_append, h.1]; simp; omega, fun j x hx => ?_⟩
  rcases Nat.lt_or_ge j l.length with hj | hj
  · rw [List.getElem?_append_left hj] at hx; exact h.2 j x hx
  · rw [List.getElem?_append_right hj] at hx
    have e : j - l.length = 0 := by
      rcases Nat.eq_zero_or_pos (j - l.length) with h0 | h0
      · exact h0
      · rw [List.getElem?_eq_none (by simp; omega)] at hx; cases hx
    rw [e] at hx
    simp at hx
    subst hx
    have hl := h.1
    have m1 := kc_mono t bs (show 512 * (64 * q / 512) ≤ 64 * q by omega)
    have m2 := kc_mono t bs (show 64 * q + 64 ≤ 512 * (64 * q / 512 + 1) by omega)
    have hj2 : j = (kc t bs (64 * q) + 255) / 256 := by omega
    rw [hj2]
    exact ⟨by omega, by omega, by omega⟩
theorem half_next {t : Bool} {bs : List Bool} {p q o : Nat} {l : List Nat} (h : Half t bs p l) (hp : p = 64 * q) (hq : p < bs.length) (ho : kc t bs (p + 64) = kc t bs p + o) :
    Half t bs (p + 64) (if (kc t bs p + 255) / 256 * 256 < kc t bs p + o then l ++ [p / 512] else l) := by
  subst hp
  rw [← ho]
  by_cases hc : (kc t bs (64 * q) + 255) / 256 * 256 < kc t bs (64 * q + 64)
  · rw [if_pos hc]; exact half_note h hq hc
  · rw [if_neg hc]; exact half_keep h hc
theorem half_end {t : Bool} {bs : List Bool} {p : Nat} {l : List Nat} (h : Half t bs p l) (hp : bs.length ≤ p) : Half t bs bs.length l := ⟨by rw [h.1, kc_ge t bs p hp], h.2⟩

/-- Where a binary search starts, and ends. -/
theorem half_low {t : Bool} {bs : List Bool} {l : List Nat} (h : Half t bs bs.length l) (k : Nat) (hk : k < kc t bs bs.length) : ∃ x, l[k / 256]? = some x ∧ 512 * x < bs.length ∧ kc t bs (512 * x) ≤ k := by
  have hl := h.1
  have hi : k / 256 < l.length := by omega
  obtain ⟨x, hx⟩ : ∃ x, l[k / 256]? = some x := ⟨_, List.getElem?_eq_getElem hi⟩
  have := h.2 _ _ hx
  exact ⟨x, hx, this.1, by omega⟩
theorem half_high {t : Bool} {bs : List Bool} {l : List Nat} (h : Half t bs bs.length l) (k x : Nat) (hx : l[k / 256 + 1]? = some x) : k < kc t bs (512 * (x + 1)) ∧ 512 * x < bs.length := by
  have := h.2 _ _ hx
  omega

/-- A bit's word, and its place there. -/
theorem in_word {t : Bool} {bs : List Bool} {p k q : Nat} (hp : p < bs.length) (hb : bitAt bs p = t) (hk : kc t bs p = k) (h1 : kc t bs (64 * q) ≤ k) (h2 : k < kc t bs (64 * q + 64)) : 64 * q ≤ p ∧ p < 64 * q + 64 := by
  constructor
  · rcases Nat.lt_or_ge p (64 * q) with h | h
    · have := kc_step t bs p (64 * q) h hp hb; omega
    · exact h
  · rcases Nat.lt_or_ge p (64 * q + 64) with h | h
    · exact h
    · have := kc_mono t bs h; omega
theorem sel_word {t : Bool} {bs : List Bool} {q j v : Nat} (hv : ∀ i, i ≤ j → v.testBit i = (bitAt bs (64 * q + i) == t)) (hj : j < 64) (hp : 64 * q + j < bs.length) (hb : bitAt bs (64 * q + j) = t) : selN v ((kc t bs (64 * q + j) - kc t bs (64 * q) : Nat) : Int) = j := by
  have key : ∀ n, n ≤ j → kc t bs (64 * q + n) = kc t bs (64 * q) + onesTo v n := by
    intro n
    induction n with
    | zero => intro _; rfl
    | succ n ih =>
      intro hn
      rw [← Nat.add_assoc]
      simp only [kc, onesTo]
      have : decide (64 * q + n < bs.length) = true := by simp; omega
      rw [ih (by omega), hv n (by omega), this, Bool.true_and]; omega
  refine selN_eq v j _ (by rw [hv j (Nat.le_refl _), hb]; simp) ?_ hj
  have := key j (Nat.le_refl _)
  omega
theorem sel_one (bs : List Bool) (q j : Nat) (hj : j < 64) (hp : 64 * q + j < bs.length) (hb : bitAt bs (64 * q + j) = true) : selN (wordAt bs q) ((kc true bs (64 * q + j) - kc true bs (64 * q) : Nat) : Int) = j :=
  sel_word (fun i hi => by rw [kword_one bs q i (by omega)]; have : decide (64 * q + i < bs.length) = true := by simp; omega
                           rw [this, Bool.true_and]) hj hp hb
theorem sel_zero (bs : List Bool) (q j : Nat) (hj : j < 64) (hp : 64 * q + j < bs.length) (hb : bitAt bs (64 * q + j) = false) : selN (comp (wordAt bs q)) ((kc false bs (64 * q + j) - kc false bs (64 * q) : Nat) : Int) = j :=
  sel_word (fun i hi => by rw [comp_bit _ _ (wordAt_lt bs q) (by omega), wordAt_testBit]; have : decide (i < 64) = true := by simp; omega
                           rw [this, Bool.true_and]; cases bitAt bs (64 * q + i) <;> rfl) hj hp hb

end Go.Proofs.YtlpnbkfcbamnbaaDoor.L
