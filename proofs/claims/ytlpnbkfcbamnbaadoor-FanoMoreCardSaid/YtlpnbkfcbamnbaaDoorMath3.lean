/- Plain laws on rows of bits: a list of bits, its words of 64, and what a Put does to them. -/
import Derived.Test.YtlpnbkfcbamnbaaDoorMath2
set_option linter.unusedVariables false
set_option linter.unusedSimpArgs false
namespace Go.Proofs.YtlpnbkfcbamnbaaDoor
namespace L

def bitAt (bs : List Bool) (i : Nat) : Bool := bs[i]?.getD false

/-- The number that bits make, the least first. -/
def num : List Bool → Nat
  | [] => 0
  | b :: l => b.toNat + 2 * num l

theorem num_lt : ∀ l : List Bool, num l < 2 ^ l.length
  | [] => by simp [num]
  | b :: l => by
    have h1 := num_lt l
    have h2 : 2 ^ (l.length + 1) = 2 ^ l.length * 2 := Nat.pow_succ _ _
    have h3 := Bool.toNat_le b
    simp only [num, List.length_cons]; omega

theorem num_testBit : ∀ (l : List Bool) (i : Nat), (num l).testBit i = bitAt l i
  | [], i => by simp [num, bitAt]
  | b :: l, 0 => by
    have : (num (b :: l)) % 2 = b.toNat := by simp only [num]; have := Bool.toNat_lt b; omega
    rw [Nat.testBit_zero, this]; cases b <;> rfl
  | b :: l, i + 1 => by
    have : (num (b :: l)) / 2 = num l := by simp only [num]; have := Bool.toNat_lt b; omega
    rw [Nat.testBit_succ, this, num_testBit l i]; simp [bitAt]

def nwords (n : Nat) : Nat := (n + 63) / 64
def wordAt (bs : List Bool) (i : Nat) : Nat := num ((bs.drop (64 * i)).take 64)
def words (bs : List Bool) : List Nat := (List.range (nwords bs.length)).map (wordAt bs)
def bitsOf (v n : Nat) : List Bool := (List.range n).map v.testBit

theorem bitAt_drop_take (bs : List Bool) (k n i : Nat) : bitAt ((bs.drop k).take n) i = (decide (i < n) && bitAt bs (k + i)) := by
  unfold bitAt
  rw [List.getElem?_take]
  by_cases h : i < n
  · rw [if_pos h, List.getElem?_drop]; simp [h]
  · rw [if_neg h]; simp [h]

theorem wordAt_testBit (bs : List Bool) (i j : Nat) : (wordAt bs i).testBit j = (decide (j < 64) && bitAt bs (64 * i + j)) := by
  unfold wordAt; rw [num_testBit, bitAt_drop_take]

theorem wordAt_lt (bs : List Bool) (i : Nat) : wordAt bs i < 18446744073709551616 := by
  have h1 := num_lt ((bs.drop (64 * i)).take 64)
  have h2 : ((bs.drop (64 * i)).take 64).length ≤ 64 := by rw [List.length_take]; omega
  have h3 := pow_le64 h2
  unfold wordAt; omega

theorem words_length (bs : List Bool) : (words bs).length = nwords bs.length := by simp [words]
theorem words_get (bs : List Bool) {i : Nat} (h : i < nwords bs.length) : (words bs)[i]? = some (wordAt bs i) := by
  simp [words, List.getElem?_range h]
theorem bitsOf_length (v n : Nat) : (bitsOf v n).length = n := by simp [bitsOf]
theorem bitAt_bitsOf (v n i : Nat) : bitAt (bitsOf v n) i = (decide (i < n) && v.testBit i) := by
  unfold bitAt bitsOf
  by_cases h : i < n
  · simp [List.getElem?_range h, h]
  · simp [List.getElem?_eq_none (show (List.range n).length ≤ i by simp; omega), h]
theorem bitAt_append (a b : List Bool) (i : Nat) : bitAt (a ++ b) i = if i < a.length then bitAt a i else bitAt b (i - a.length) := by
  unfold bitAt
  by_cases h : i < a.length
  · rw [if_pos h, List.getElem?_append_left h]
  · rw [if_neg h, List.getElem?_append_right (by omega)]
theorem bitAt_ge (a : List Bool) (i : Nat) (h : a.length ≤ i) : bitAt a i = false := by
  unfold bitAt; rw [List.getElem?_eq_none h]; rfl
theorem bitAt_get (a : List Bool) (i : Nat) (h : i < a.length) : a[i]? = some (bitAt a i) := by
  unfold bitAt; rw [List.getElem?_eq_getElem h]; rfl
theorem ext_bits {a b : List Bool} (hl : a.length = b.length) (h : ∀ i, i < a.length → bitAt a i = bitAt b i) : a = b := by
  apply List.ext_getElem? ; intro i
  rcases Nat.lt_or_ge i a.length with h1 | h1
  · rw [bitAt_get a i h1, bitAt_get b i (by omega), h i h1]
  · rw [List.getElem?_eq_none h1, List.getElem?_eq_none (by omega)]

theorem testBit_lt {v n j : Nat} (h : v < 2 ^ n) (hj : n ≤ j) : v.testBit j = false :=
  Nat.testBit_lt_two_pow (Nat.lt_of_lt_of_le h (Nat.pow_le_pow_right (by omega) hj))

theorem wordAt_append (bs : List Bool) (v n i j : Nat) (hv : v < 2 ^ n) : (wordAt (bs ++ bitsOf v n) i).testBit j = (decide (j < 64) && if 64 * i + j < bs.length then bitAt bs (64 * i + j) else v.testBit (64 * i + j - bs.length)) := by
  rw [wordAt_testBit, bitAt_append, bitAt_bitsOf]
  by_cases h : 64 * i + j < bs.length
  · simp only [h, if_true]
  · simp only [h, if_false]
    by_cases h2 : 64 * i + j - bs.length < n
    · simp [h2]
    · have h3 := testBit_lt (j := 64 * i + j - bs.length) hv (by omega)
      simp [h2, h3]

theorem wordAt_keep (bs cs : List Bool) (i : Nat) (h : 64 * (i + 1) ≤ bs.length) : wordAt (bs ++ cs) i = wordAt bs i := by
  apply Nat.eq_of_testBit_eq; intro j
  rw [wordAt_testBit, wordAt_testBit]
  by_cases hj : j < 64
  · rw [bitAt_append, if_pos (by omega)]
  · simp [hj]

/-- A Put at a word's beginning. -/
theorem words_put_new (bs : List Bool) (v n : Nat) (hb : bs.length % 64 = 0) (h0 : 0 < n) (hn : n ≤ 64) (hv : v < 2 ^ n) : words (bs ++ bitsOf v n) = words bs ++ [v] := by
  have hq : nwords bs.length = bs.length / 64 := by unfold nwords; omega
  have hq2 : nwords (bs ++ bitsOf v n).length = bs.length / 64 + 1 := by rw [List.length_append, bitsOf_length]; unfold nwords; omega
  apply List.ext_getElem?; intro i
  rcases Nat.lt_trichotomy i (bs.length / 64) with h | h | h
  · rw [words_get _ (by omega), List.getElem?_append_left (by rw [words_length]; omega), words_get _ (by omega), wordAt_keep _ _ _ (by omega)]
  · rw [words_get _ (by omega), List.getElem?_append_right (by rw [words_length]; omega), words_length, hq, h]
    simp only [Nat.sub_self, List.getElem?_cons_zero, Option.some.injEq]
    apply Nat.eq_of_testBit_eq; intro j
    rw [wordAt_append _ _ _ _ _ hv, if_neg (by omega)]
    have : 64 * (bs.length / 64) + j - bs.length = j := by omega
    rw [this]
    by_cases hj : j < 64
    · simp [hj]
    · have h3 := testBit_lt (j := j) hv (by omega)
      simp [hj, h3]
  · rw [List.getElem?_eq_none (by rw [words_length]; omega), List.getElem?_eq_none (by rw [List.length_append, words_length]; simp; omega)]

/-- The last word's new value, and the word behind it, if there is one. -/
def putLast (bs : List Bool) (v : Nat) : Nat := wordAt bs (bs.length / 64) ||| (v * 2 ^ (bs.length % 64) % 18446744073709551616)

theorem putLast_eq (bs : List Bool) (v n : Nat) (hn : n ≤ 64) (hv : v < 2 ^ n) : wordAt (bs ++ bitsOf v n) (bs.length / 64) = putLast bs v := by
  unfold putLast
  apply Nat.eq_of_testBit_eq; intro j
  rw [wordAt_append _ _ _ _ _ hv, Nat.testBit_or, wordAt_testBit, show (18446744073709551616 : Nat) = 2 ^ 64 from by decide, Nat.testBit_mod_two_pow, Nat.testBit_mul_two_pow]
  by_cases hj : j < 64
  · by_cases h : 64 * (bs.length / 64) + j < bs.length
    · have h1 : ¬ bs.length % 64 ≤ j := by omega
      simp [hj, h, h1]
    · have h1 : bs.length % 64 ≤ j := by omega
      have h2 : 64 * (bs.length / 64) + j - bs.length = j - bs.length % 64 := by omega
      simp [hj, h, h1, h2, bitAt_ge bs _ (show bs.length ≤ 64 * (bs.length / 64) + j by omega)]
  · simp [hj]

/-- A Put within a word that holds it. -/
theorem words_put_in (bs : List Bool) (v n : Nat) (hb : bs.length % 64 ≠ 0) (hn : bs.length % 64 + n ≤ 64) (hv : v < 2 ^ n) :
    words (bs ++ bitsOf v n) = (words bs).set (bs.length / 64) (putLast bs v) := by
  have hq : nwords bs.length = bs.length / 64 + 1 := by unfold nwords; omega
  have hq2 : nwords (bs ++ bitsOf v n).length = bs.length / 64 + 1 := by rw [List.length_append, bitsOf_length]; unfold nwords; omega
  apply List.ext_getElem?; intro i
  rw [List.getElem?_set]
  rcases Nat.lt_trichotomy i (bs.length / 64) with h | h | h
  · rw [if_neg (by omega), words_get _ (by omega), words_get _ (by omega), wordAt_keep _ _ _ (by omega)]
  · subst h
    rw [if_pos rfl, if_pos (by rw [words_length]; omega), words_get _ (by omega), putLast_eq _ _ _ (by omega) hv]
  · rw [if_neg (by omega), List.getElem?_eq_none (by rw [words_length]; omega), List.getElem?_eq_none (by rw [words_length]; omega)]

/-- A Put over a word's end. -/
theorem words_put_over (bs : List Bool) (v n : Nat) (hb : bs.length % 64 ≠ 0) (hn : 64 < bs.length % 64 + n) (hn' : n ≤ 64) (hv : v < 2 ^ n) :
    words (bs ++ bitsOf v n) = (words bs).set (bs.length / 64) (putLast bs v) ++ [v / 2 ^ (64 - bs.length % 64)] := by
  have hq : nwords bs.length = bs.length / 64 + 1 := by unfold nwords; omega
  have hq2 : nwords (bs ++ bitsOf v n).length = bs.length / 64 + 2 := by rw [List.length_append, bitsOf_length]; unfold nwords; omega
  have hl : ((words bs).set (bs.length / 64) (putLast bs v)).length = bs.length / 64 + 1 := by rw [List.length_set, words_length, hq]
  apply List.ext_getElem?; intro i
  rcases Nat.lt_trichotomy i (bs.length / 64 + 1) with h | h | h
  · rw [List.getElem?_append_left (by omega), List.getElem?_set]
    rcases Nat.lt_or_ge i (bs.length / 64) with h1 | h1
    · rw [if_neg (by omega), words_get _ (by omega), words_get _ (by omega), wordAt_keep _ _ _ (by omega)]
    · have : i = bs.length / 64 := by omega
      subst this
      rw [if_pos rfl, if_pos (by rw [words_length]; omega), words_get _ (by omega), putLast_eq _ _ _ hn' hv]
  · rw [List.getElem?_append_right (by omega), words_get _ (by omega), hl, h]
    simp only [Nat.sub_self, List.getElem?_cons_zero, Option.some.injEq]
    apply Nat.eq_of_testBit_eq; intro j
    rw [wordAt_append _ _ _ _ _ hv, if_neg (by omega), Nat.testBit_div_two_pow]
    have : 64 * (bs.length / 64 + 1) + j - bs.length = j + (64 - bs.length % 64) := by omega
    rw [this]
    by_cases hj : j < 64
    · simp [hj]
    · have h3 := testBit_lt (j := j + (64 - bs.length % 64)) hv (by omega)
      simp [hj, h3]
  · rw [List.getElem?_eq_none (by rw [words_length]; omega), List.getElem?_eq_none (by rw [List.length_append, hl]; simp; omega)]

end L
end Go.Proofs.YtlpnbkfcbamnbaaDoor
