/- Plain laws: the number of some bits of a row, out of its words; bytes of numbers. -/
import Derived.Test.YtlpnbkfcbamnbaaDoorMath3
import Derived.Lib.UnsafeStr
set_option linter.unusedVariables false
set_option linter.unusedSimpArgs false
namespace Go.Proofs.YtlpnbkfcbamnbaaDoor
namespace L

/-- The number of n bits from a place on. -/
def fld (bs : List Bool) (p n : Nat) : Nat := num ((bs.drop p).take n)
theorem fld_testBit (bs : List Bool) (p n j : Nat) : (fld bs p n).testBit j = (decide (j < n) && bitAt bs (p + j)) := by unfold fld; rw [num_testBit, bitAt_drop_take]
theorem fld_lt (bs : List Bool) (p n : Nat) : fld bs p n < 2 ^ n := by
  have h1 := num_lt ((bs.drop p).take n)
  have h2 : ((bs.drop p).take n).length ≤ n := by rw [List.length_take]; omega
  have h3 : (2 : Nat) ^ ((bs.drop p).take n).length ≤ 2 ^ n := Nat.pow_le_pow_right (by omega) h2
  unfold fld; omega
theorem fld_lt64 (bs : List Bool) (p n : Nat) (h : n ≤ 64) : fld bs p n < 18446744073709551616 := Nat.lt_of_lt_of_le (fld_lt bs p n) (pow_le64 h)
theorem fld_zero (bs : List Bool) (p : Nat) : fld bs p 0 = 0 := by simp [fld, num]
theorem wordAt_eq_fld (bs : List Bool) (i : Nat) : wordAt bs i = fld bs (64 * i) 64 := rfl

theorem bitsOf_fld (bs : List Bool) (p n : Nat) (h : p + n ≤ bs.length) : bitsOf (fld bs p n) n = (bs.drop p).take n := by
  apply ext_bits
  · rw [bitsOf_length, List.length_take, List.length_drop]; omega
  · intro i hi
    rw [bitsOf_length] at hi
    rw [bitAt_bitsOf, fld_testBit, bitAt_drop_take]; simp [hi]

/-- One bit more. -/
theorem fld_succ (bs : List Bool) (p n : Nat) : fld bs p (n + 1) = if bitAt bs (p + n) then fld bs p n ||| 2 ^ n else fld bs p n := by
  apply Nat.eq_of_testBit_eq; intro j
  rw [fld_testBit]
  cases hb : bitAt bs (p + n)
  · simp only [Bool.false_eq_true, if_false, fld_testBit]
    rcases Nat.lt_trichotomy j n with h | h | h
    · have h1 : j < n + 1 := by omega
      simp [h, h1]
    · subst h; simp [hb]
    · have h1 : ¬ j < n + 1 := by omega
      have h2 : ¬ j < n := by omega
      simp [h1, h2]
  · simp only [if_true, Nat.testBit_or, fld_testBit, Nat.testBit_two_pow]
    rcases Nat.lt_trichotomy j n with h | h | h
    · have h1 : j < n + 1 := by omega
      have h2 : ¬ n = j := by omega
      simp [h, h1, h2]
    · subst h; simp [hb]
    · have h1 : ¬ j < n + 1 := by omega
      have h2 : ¬ j < n := by omega
      have h3 : ¬ n = j := by omega
      simp [h1, h2, h3]

theorem fieldN_testBit (x : Nat) (p : Nat) (n : Nat) (hp : p < 64) (hn : 1 ≤ n) (hn' : n ≤ 64) (j : Nat) : (fieldN x (p : Nat) (n : Nat)).testBit j = (decide (j < n) && x.testBit (p + j)) := by
  unfold fieldN
  rw [if_neg (by omega), if_neg (by omega), clampN_nat hn', Nat.testBit_mod_two_pow, Int.toNat_natCast, Nat.testBit_div_two_pow, Nat.add_comm j p]

theorem fieldN_lt (x : Nat) (p n : Int) (hx : x < 18446744073709551616) : fieldN x p n < 18446744073709551616 := by
  unfold fieldN
  split
  · omega
  · split
    · exact Nat.lt_of_lt_of_le (Nat.mod_lt _ (Nat.two_pow_pos _)) (pow_le64 (clampN_le n))
    · exact Nat.lt_of_lt_of_le (Nat.mod_lt _ (Nat.two_pow_pos _)) (pow_le64 (clampN_le n))

/-- Some bits within one word. -/
theorem field_in (bs : List Bool) (p n : Nat) (hn : 1 ≤ n) (h : p % 64 + n ≤ 64) : fieldN (wordAt bs (p / 64)) ((p % 64 : Nat) : Int) (n : Nat) = fld bs p n := by
  apply Nat.eq_of_testBit_eq; intro j
  rw [fieldN_testBit _ _ _ (by omega) hn (by omega), fld_testBit, wordAt_testBit]
  by_cases hj : j < n
  · have h1 : p % 64 + j < 64 := by omega
    have h2 : 64 * (p / 64) + (p % 64 + j) = p + j := by omega
    simp [hj, h1, h2]
  · simp [hj]
/-- .. over a word's end. -/
theorem field_over (bs : List Bool) (p n : Nat) (hn : n ≤ 64) (h : 64 < p % 64 + n) :
    fieldN (wordAt bs (p / 64)) ((p % 64 : Nat) : Int) (n : Nat) ||| (fieldN (wordAt bs (p / 64 + 1)) ((0 : Nat) : Int) ((p % 64 + n - 64 : Nat) : Int) * 2 ^ (64 - p % 64) % 18446744073709551616) = fld bs p n := by
  apply Nat.eq_of_testBit_eq; intro j
  rw [Nat.testBit_or, fieldN_testBit _ _ _ (by omega) (by omega) hn, show (18446744073709551616 : Nat) = 2 ^ 64 from by decide, Nat.testBit_mod_two_pow, Nat.testBit_mul_two_pow,
    fieldN_testBit _ _ _ (by omega) (by omega) (by omega), fld_testBit, wordAt_testBit, wordAt_testBit]
  by_cases hj : j < n
  · by_cases h1 : p % 64 + j < 64
    · have h2 : 64 * (p / 64) + (p % 64 + j) = p + j := by omega
      have h3 : ¬ 64 - p % 64 ≤ j := by omega
      simp [hj, h1, h2, h3]
    · have h3 : 64 - p % 64 ≤ j := by omega
      have h4 : j < 64 := by omega
      have h5 : j - (64 - p % 64) < p % 64 + n - 64 := by omega
      have h6 : j - (64 - p % 64) < 64 := by omega
      have h7 : 64 * (p / 64 + 1) + (j - (64 - p % 64)) = p + j := by omega
      simp [hj, h1, h3, h4, h5, h6, h7]
  · have h5 : ¬ j - (64 - p % 64) < p % 64 + n - 64 := by omega
    simp [hj, h5]

/-- A number's first k bytes. -/
def leB (v k : Nat) : List UInt8 := (List.range k).map fun i => UInt8.ofNat (v / 256 ^ i)
theorem leB_succ (v k : Nat) : leB v (k + 1) = leB v k ++ [UInt8.ofNat (v / 256 ^ k)] := by simp [leB, List.range_succ]
theorem leB_length (v k : Nat) : (leB v k).length = k := by simp [leB]
theorem byteCells_append (a b : List UInt8) : Lib.byteCells (a ++ b) = Lib.byteCells a ++ Lib.byteCells b := by simp [Lib.byteCells]
theorem byteCells_one (x : Nat) : Lib.byteCells [UInt8.ofNat x] = [.int .u8 ((x % 256 : Nat) : Int)] := by simp [Lib.byteCells, UInt8.toNat_ofNat']

/-- A row's bytes. -/
def rowBytes (bs : List Bool) : List UInt8 := leB bs.length 8 ++ (words bs).flatMap (leB · 8)
/-- .. with its first k words. -/
def rowBytesTo (bs : List Bool) (k : Nat) : List UInt8 := leB bs.length 8 ++ ((words bs).take k).flatMap (leB · 8)
theorem rowBytesTo_all (bs : List Bool) : rowBytesTo bs (nwords bs.length) = rowBytes bs := by
  unfold rowBytesTo rowBytes; rw [List.take_of_length_le (by rw [words_length]; omega)]
theorem rowBytesTo_succ (bs : List Bool) (k : Nat) (h : k < nwords bs.length) : rowBytesTo bs (k + 1) = rowBytesTo bs k ++ leB (wordAt bs k) 8 := by
  unfold rowBytesTo
  have hk : k < (words bs).length := by rw [words_length]; exact h
  have := words_get bs h
  rw [List.getElem?_eq_getElem hk] at this
  injection this with this
  rw [List.take_succ_eq_append_getElem hk, List.flatMap_append, this, List.append_assoc]; simp
theorem flatMap_leB_length : ∀ l : List Nat, (l.flatMap (leB · 8)).length = 8 * l.length
  | [] => rfl
  | a :: l => by rw [List.flatMap_cons, List.length_append, flatMap_leB_length l, leB_length, List.length_cons]; omega
theorem rowBytesTo_length (bs : List Bool) (k : Nat) : (rowBytesTo bs k).length ≤ 8 + 8 * nwords bs.length := by
  unfold rowBytesTo
  rw [List.length_append, leB_length, flatMap_leB_length, List.length_take, words_length]; omega

/-- A row's word at any place; 0 of none. -/
def wordI (bs : List Bool) (i : Int) : Nat := if i < 0 then 0 else wordAt bs i.toNat
theorem wordI_nat (bs : List Bool) (k : Nat) : wordI bs (k : Int) = wordAt bs k := by unfold wordI; rw [if_neg (by omega), Int.toNat_natCast]
theorem wordI_lt (bs : List Bool) (i : Int) : wordI bs i < 18446744073709551616 := by
  unfold wordI; split
  · omega
  · exact wordAt_lt _ _

end L
end Go.Proofs.YtlpnbkfcbamnbaaDoor
