/- Plain laws: the ones of a row counted; the entries of a directory. No program in sight. -/
import Derived.Test.YtlpnbkfcbamnbaaDoorMath5
set_option linter.unusedVariables false
set_option linter.unusedSimpArgs false
namespace Go.Proofs.YtlpnbkfcbamnbaaDoor.L

/-- How many of a row's first n bits are 1. -/
def cnt (bs : List Bool) : Nat → Nat
  | 0 => 0
  | n + 1 => cnt bs n + (bitAt bs n).toNat

theorem cnt_le (bs : List Bool) (n : Nat) : cnt bs n ≤ n := by
  induction n with
  | zero => simp [cnt]
  | succ n ih => have := Bool.toNat_le (bitAt bs n); simp only [cnt]; omega
theorem cnt_mono (bs : List Bool) {a b : Nat} (h : a ≤ b) : cnt bs a ≤ cnt bs b := by
  induction b with
  | zero => have : a = 0 := by omega
            subst this; exact Nat.le_refl _
  | succ b ih =>
    rcases Nat.lt_or_ge b a with h2 | h2
    · have : a = b + 1 := by omega
      subst this; exact Nat.le_refl _
    · have := ih h2; simp only [cnt]; omega
theorem cnt_diff (bs : List Bool) (a n : Nat) : cnt bs (a + n) ≤ cnt bs a + n := by
  induction n with
  | zero => simp
  | succ n ih => have := Bool.toNat_le (bitAt bs (a + n)); rw [← Nat.add_assoc]; simp only [cnt]; omega
theorem cnt_ge (bs : List Bool) (n : Nat) (h : bs.length ≤ n) : cnt bs n = cnt bs bs.length := by
  obtain ⟨d, rfl⟩ : ∃ d, n = bs.length + d := ⟨n - bs.length, by omega⟩
  clear h
  induction d with
  | zero => rfl
  | succ d ih => rw [← Nat.add_assoc]; simp only [cnt]; rw [ih, bitAt_ge bs _ (by omega)]; simp
theorem cnt_len (bs : List Bool) (n : Nat) : cnt bs n ≤ bs.length := by
  rcases Nat.lt_or_ge n bs.length with h | h
  · have := cnt_le bs n; omega
  · rw [cnt_ge bs n h]; exact cnt_le _ _
/-- A word's ones stand behind those ahead of it. -/
theorem cnt_word (bs : List Bool) (i n : Nat) (h : n ≤ 64) : cnt bs (64 * i + n) = cnt bs (64 * i) + onesTo (wordAt bs i) n := by
  induction n with
  | zero => simp [onesTo]
  | succ n ih =>
    rw [← Nat.add_assoc]; simp only [cnt, onesTo]
    rw [ih (by omega), wordAt_testBit]
    have : decide (n < 64) = true := by simp; omega
    rw [this, Bool.true_and]; omega

/-- What the first m counts of a block make. -/
def packed (bs : List Bool) (b : Nat) : Nat → Nat
  | 0 => 0
  | m + 1 => packed bs b m + (cnt bs (512 * b + 64 * (m + 1)) - cnt bs (512 * b)) * 2 ^ (9 * m)

theorem inBlock_lt (bs : List Bool) (b m : Nat) (h : m ≤ 7) : cnt bs (512 * b + 64 * m) - cnt bs (512 * b) < 512 := by
  have := cnt_diff bs (512 * b) (64 * m); omega
theorem packed_lt (bs : List Bool) (b : Nat) : ∀ m, m ≤ 7 → packed bs b m < 2 ^ (9 * m)
  | 0, _ => by simp [packed]
  | m + 1, h => by
    have ih := packed_lt bs b m (by omega)
    have h1 := inBlock_lt bs b (m + 1) h
    have e : 2 ^ (9 * (m + 1)) = 512 * 2 ^ (9 * m) := by rw [show 9 * (m + 1) = 9 + 9 * m from by omega, Nat.pow_add]
    rw [e]; simp only [packed]
    have h2 : (cnt bs (512 * b + 64 * (m + 1)) - cnt bs (512 * b)) * 2 ^ (9 * m) ≤ 511 * 2 ^ (9 * m) := Nat.mul_le_mul_right _ (by omega)
    omega
theorem packed_lt64 (bs : List Bool) (b m : Nat) (h : m ≤ 7) : packed bs b m < 9223372036854775808 := by
  have h1 := packed_lt bs b m h
  have h2 : (2 : Nat) ^ (9 * m) ≤ 2 ^ 63 := Nat.pow_le_pow_right (by omega) (by omega)
  omega
theorem packed_digit (bs : List Bool) (b j : Nat) : ∀ m, m ≤ 7 → j < m → packed bs b m / 2 ^ (9 * j) % 512 = cnt bs (512 * b + 64 * (j + 1)) - cnt bs (512 * b)
  | 0, _, h => by omega
  | m + 1, h, hj => by
    have h1 := inBlock_lt bs b (m + 1) h
    simp only [packed]
    rcases Nat.lt_or_ge j m with h2 | h2
    · have ih := packed_digit bs b j m (by omega) h2
      have e : 2 ^ (9 * m) = 2 ^ (9 * j) * (512 * 2 ^ (9 * (m - j - 1))) := by
        rw [show (512 : Nat) = 2 ^ 9 from rfl, ← Nat.pow_add, ← Nat.pow_add]; congr 1; omega
      rw [e]
      generalize cnt bs (512 * b + 64 * (m + 1)) - cnt bs (512 * b) = c at *
      rw [Nat.mul_left_comm c, Nat.mul_left_comm c 512, Nat.add_mul_div_left _ _ (Nat.two_pow_pos _), Nat.add_mul_mod_self_left]
      exact ih
    · have : j = m := by omega
      subst this
      have h3 := packed_lt bs b j (by omega)
      rw [Nat.mul_comm, Nat.add_mul_div_left _ _ (Nat.two_pow_pos _), Nat.div_eq_of_lt h3, Nat.zero_add]
      exact Nat.mod_eq_of_lt h1
/-- One count more. -/
theorem packed_or (bs : List Bool) (b m : Nat) (h : m < 7) : packed bs b m ||| ((cnt bs (512 * b + 64 * (m + 1)) - cnt bs (512 * b)) * 2 ^ (9 * m) % 18446744073709551616) = packed bs b (m + 1) := by
  have h1 := packed_lt bs b m (by omega)
  have h2 := packed_lt64 bs b (m + 1) (by omega)
  simp only [packed] at h2 ⊢
  rw [Nat.mod_eq_of_lt (by omega), Nat.or_comm, Nat.mul_comm, ← Nat.two_pow_add_eq_or_of_lt h1]
  omega

/-- A place, held within a row. -/
def held (n : Nat) (i : Int) : Nat := (min (max i 0) n).toNat
theorem held_le (n : Nat) (i : Int) : held n i ≤ n := by unfold held; omega
theorem held_nat (n k : Nat) (h : k ≤ n) : held n (k : Nat) = k := by unfold held; omega

/-- A place's rank, of its block's entry and its word. -/
theorem cnt_parts (bs : List Bool) (p : Nat) : cnt bs p = cnt bs (512 * (p / 512)) + (if p / 64 % 8 = 0 then 0 else packed bs (p / 512) 7 / 2 ^ (9 * (p / 64 % 8 - 1)) % 512) + onesTo (wordAt bs (p / 64)) (p % 64) := by
  have h1 := cnt_word bs (p / 64) (p % 64) (by omega)
  rw [show 64 * (p / 64) + p % 64 = p from by omega] at h1
  rw [h1]
  have h3 : 64 * (p / 64) = 512 * (p / 512) + 64 * (p / 64 % 8) := by omega
  by_cases h0 : p / 64 % 8 = 0
  · rw [if_pos h0, h3, h0]; simp
  · rw [if_neg h0, packed_digit bs (p / 512) (p / 64 % 8 - 1) 7 (by omega) (by omega), show p / 64 % 8 - 1 + 1 = p / 64 % 8 from by omega, ← h3]
    have := cnt_mono bs (show 512 * (p / 512) ≤ 64 * (p / 64) by omega)
    omega

/-- The entries of a row's first n blocks. -/
def entries (bs : List Bool) (n : Nat) : List Nat := (List.range n).flatMap fun b => [cnt bs (512 * b), packed bs b 7]
theorem entries_succ (bs : List Bool) (n : Nat) : entries bs (n + 1) = entries bs n ++ [cnt bs (512 * n), packed bs n 7] := by simp [entries, List.range_succ]
theorem entries_length (bs : List Bool) (n : Nat) : (entries bs n).length = 2 * n := by
  induction n with
  | zero => rfl
  | succ n ih => rw [entries_succ, List.length_append, ih]; simp; omega
theorem entries_get (bs : List Bool) (n b : Nat) (h : b < n) : (entries bs n)[2 * b]? = some (cnt bs (512 * b)) ∧ (entries bs n)[2 * b + 1]? = some (packed bs b 7) := by
  induction n with
  | zero => omega
  | succ n ih =>
    have hl := entries_length bs n
    rw [entries_succ]
    rcases Nat.lt_or_ge b n with h2 | h2
    · obtain ⟨a1, a2⟩ := ih h2
      exact ⟨by rw [List.getElem?_append_left (by omega)]; exact a1, by rw [List.getElem?_append_left (by omega)]; exact a2⟩
    · have : b = n := by omega
      subst this
      constructor
      · rw [List.getElem?_append_right (by omega), hl, Nat.sub_self]; rfl
      · rw [List.getElem?_append_right (by omega), hl, show 2 * b + 1 - 2 * b = 1 from by omega]; rfl

end Go.Proofs.YtlpnbkfcbamnbaaDoor.L
