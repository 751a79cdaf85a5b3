/- Plain laws on words, in the walk's spelling: integers of Go against numbers and their bits. -/
import Derived.Test.YtlpnbkfcbamnbaaDoorMath1
import Derived.WalkKit
import Derived.Lib.ItoaNum
set_option linter.unusedVariables false
set_option linter.unusedSimpArgs false
namespace Go.Proofs.YtlpnbkfcbamnbaaDoor
namespace L

theorem hid {p : Prop} (h : p) : Go.RowKit.Hid p := h


/-- A number of first bits that there are. -/
def clampN (n : Int) : Nat := (min (max n 0) 64).toNat

theorem wrap_and_sum (x d c : Nat) (hx : x < 18446744073709551616) (hc : c < 18446744073709551616) (h : (x / d &&& c) + (x &&& c) < 18446744073709551616) :
    IntKind.u64.wrap (bits BinOp.and IntKind.u64 ((x : Int) / (d : Int)) (c : Int) + bits BinOp.and IntKind.u64 (x : Int) (c : Int)) = (((x / d &&& c) + (x &&& c) : Nat) : Int) := by
  have e : (x : Int) / (d : Int) = ((x / d : Nat) : Int) := rfl
  rw [e, u64_and_nat _ _ (Nat.lt_of_le_of_lt (Nat.div_le_self x d) hx) hc, u64_and_nat _ _ hx hc, IntKind.wrap_u64]
  omega

theorem u_and127 (y : Nat) (hy : y < 9223372036854775808) : bits BinOp.and IntKind.i64 (y : Int) 127 = ((y % 128 : Nat) : Int) := by
  rw [show y % 128 = y &&& 127 from (Nat.and_two_pow_sub_one_eq_mod y 7).symm]
  have h : y &&& 127 < 2 ^ 7 := Nat.and_lt_two_pow _ (by omega)
  show IntKind.i64.wrap ((BitVec.ofInt 64 (y : Int) &&& BitVec.ofInt 64 (127 : Int)).toNat : Int) = _
  rw [BitVec.toNat_and, BitVec.ofInt_natCast, BitVec.toNat_ofNat, Nat.mod_eq_of_lt (by omega), show (BitVec.ofInt 64 (127 : Int)).toNat = 127 from by decide, IntKind.wrap_i64]
  omega

theorem clampN_le (n : Int) : clampN n ≤ 64 := by unfold clampN; omega
theorem clampN_of {n : Int} (h : 0 ≤ n) (h' : n ≤ 64) : clampN n = n.toNat := by unfold clampN; omega
theorem clampN_nat {n : Nat} (h' : n ≤ 64) : clampN (n : Int) = n := by unfold clampN; omega
theorem clampN_clampN (n : Int) : clampN (clampN n : Nat) = clampN n := clampN_nat (clampN_le n)

theorem pow_lt64 {k : Nat} (h : k < 64) : 2 ^ k < 18446744073709551616 := by
  have : (2 : Nat) ^ k < 2 ^ 64 := Nat.pow_lt_pow_right (by omega) h
  have e : (2 : Nat) ^ 64 = 18446744073709551616 := by decide
  omega
theorem pow_le64 {k : Nat} (h : k ≤ 64) : 2 ^ k ≤ 18446744073709551616 := by
  have : (2 : Nat) ^ k ≤ 2 ^ 64 := Nat.pow_le_pow_right (by omega) h
  have e : (2 : Nat) ^ 64 = 18446744073709551616 := by decide
  omega
theorem mask_lt (n : Int) : 2 ^ clampN n - 1 < 18446744073709551616 := by
  have := pow_le64 (clampN_le n); have := Nat.two_pow_pos (clampN n); omega

theorem mask_lo (k : Int) (hk : 0 ≤ k) (h : k < 64) : IntKind.u64.wrap (IntKind.u64.wrap (2 ^ k.toNat) - 1) = ((2 ^ clampN k - 1 : Nat) : Int) := by
  rw [clampN_of hk (by omega), IntKind.wrap_u64, IntKind.wrap_u64]
  have h1 : k.toNat < 64 := by omega
  have h2 := pow_lt64 h1
  have h3 := Nat.two_pow_pos k.toNat
  have e : ((2 : Int) ^ k.toNat) = ((2 ^ k.toNat : Nat) : Int) := by simp
  rw [e]
  omega
theorem mask_hi (k : Int) (h : 64 ≤ k) : (18446744073709551615 : Int) = ((2 ^ clampN k - 1 : Nat) : Int) := by
  have : clampN k = 64 := by unfold clampN; omega
  rw [this]; decide

theorem ones_and (x : Nat) (n : Int) (hx : x < 18446744073709551616) :
    bits BinOp.and IntKind.u64 (x : Int) ((2 ^ clampN (clampN n : Nat) - 1 : Nat) : Int) = ((x % 2 ^ clampN n : Nat) : Int) ∧ x % 2 ^ clampN n < 18446744073709551616 ∧ onesTo (x % 2 ^ clampN n) 64 = onesTo x (clampN n) := by
  rw [clampN_clampN, ← Nat.and_two_pow_sub_one_eq_mod]
  exact ⟨u64_and_nat _ _ hx (mask_lt n), Nat.lt_of_le_of_lt Nat.and_le_left hx, onesTo_mask _ _ _ (clampN_le n)⟩

/-- The number that some bits of a word make (word.Field). -/
def fieldN (x : Nat) (p n : Int) : Nat :=
  if n < 1 ∨ 64 ≤ p ∨ p ≤ -64 then 0
  else if p < 0 then (x * 2 ^ (-p).toNat % 18446744073709551616) % 2 ^ clampN n
  else (x / 2 ^ p.toNat) % 2 ^ clampN n

theorem field_neg (x : Nat) (p n : Int) (hx : x < 18446744073709551616) (h : ¬ (n < 1 ∨ 64 ≤ p ∨ p ≤ -64)) (hp : p < 0) :
    bits BinOp.and IntKind.u64 (IntKind.u64.wrap ((x : Int) * 2 ^ (-p).toNat)) ((2 ^ clampN n - 1 : Nat) : Int) = ((fieldN x p n : Nat) : Int) := by
  have e : IntKind.u64.wrap ((x : Int) * 2 ^ (-p).toNat) = ((x * 2 ^ (-p).toNat % 18446744073709551616 : Nat) : Int) := by
    rw [IntKind.wrap_u64]; simp
  rw [e, u64_and_nat _ _ (Nat.mod_lt _ (by omega)) (mask_lt n), Nat.and_two_pow_sub_one_eq_mod]
  unfold fieldN; rw [if_neg h, if_pos hp]
theorem field_pos (x : Nat) (p n : Int) (hx : x < 18446744073709551616) (h : ¬ (n < 1 ∨ 64 ≤ p ∨ p ≤ -64)) (hp : 0 ≤ p) :
    bits BinOp.and IntKind.u64 ((x : Int) / 2 ^ p.toNat) ((2 ^ clampN n - 1 : Nat) : Int) = ((fieldN x p n : Nat) : Int) := by
  have e : (x : Int) / 2 ^ p.toNat = ((x / 2 ^ p.toNat : Nat) : Int) := by simp
  rw [e, u64_and_nat _ _ (Nat.lt_of_le_of_lt (Nat.div_le_self _ _) hx) (mask_lt n), Nat.and_two_pow_sub_one_eq_mod]
  unfold fieldN; rw [if_neg h, if_neg (by omega)]

/-- A word's bit at a place; false where there is none. -/
def ibit (x : Nat) (i : Int) : Bool := decide (0 ≤ i) && decide (i < 64) && x.testBit i.toNat

theorem ibit_nat (x : Nat) (k : Nat) (h : k < 64) : ibit x k = x.testBit k := by
  unfold ibit
  have h1 : decide ((0 : Int) ≤ (k : Int)) = true := by simp
  have h2 : decide ((k : Int) < 64) = true := by simp; omega
  rw [h1, h2]; simp

theorem bit_and1 (x : Nat) (i : Int) (hx : x < 18446744073709551616) (h : 0 ≤ i) (h2 : i < 64) :
    (bits BinOp.and IntKind.u64 ((x : Int) / 2 ^ i.toNat) 1 == 1) = ibit x i := by
  have e : (x : Int) / 2 ^ i.toNat = ((x / 2 ^ i.toNat : Nat) : Int) := by simp
  rw [e]
  have e2 := u64_and_nat (x / 2 ^ i.toNat) 1 (Nat.lt_of_le_of_lt (Nat.div_le_self _ _) hx) (by omega)
  have e3 : bits BinOp.and IntKind.u64 ((x / 2 ^ i.toNat : Nat) : Int) 1 = ((x / 2 ^ i.toNat % 2 : Nat) : Int) := by
    have := e2; rw [Nat.and_one_is_mod] at this; exact this
  rw [e3]
  unfold ibit
  rw [Nat.testBit_eq_decide_div_mod_eq]
  have h1 : decide ((0 : Int) ≤ i) = true := by simp; omega
  have h3 : decide (i < 64) = true := by simp; omega
  rw [h1, h3]
  rcases Nat.mod_two_eq_zero_or_one (x / 2 ^ i.toNat) with h0 | h0 <;> rw [h0] <;> rfl

/-- How many bits a number takes. -/
def need (x : Nat) : Nat := Lib.bitLen x

/-- How many bits its first k bits take. -/
def needTo (x : Nat) : Nat → Nat
  | 0 => 0
  | k + 1 => if ibit x k then k + 1 else needTo x k

theorem needTo_succ (x k : Nat) (h : k < 64) : needTo x (k + 1) = if ibit x k then k + 1 else needTo x k := rfl

theorem needTo_bd (x : Nat) : ∀ k, k ≤ 64 → x % 2 ^ k < 2 ^ needTo x k ∧ (needTo x k ≠ 0 → 2 ^ (needTo x k - 1) ≤ x % 2 ^ k) ∧ needTo x k ≤ k
  | 0, _ => by simp [needTo, Nat.mod_one]
  | k + 1, h => by
    have ih := needTo_bd x k (by omega)
    rw [needTo_succ x k (by omega), ibit_nat x k (by omega)]
    have e : x % 2 ^ (k + 1) = x % 2 ^ k + 2 ^ k * (x / 2 ^ k % 2) := by rw [Nat.pow_succ, Nat.mod_mul]
    have hp := Nat.two_pow_pos k
    have hm := Nat.mod_lt x hp
    have hs : (2 : Nat) ^ (k + 1) = 2 ^ k * 2 := Nat.pow_succ _ _
    cases hb : x.testBit k
    · have h0 : x / 2 ^ k % 2 = 0 := by
        rw [Nat.testBit_eq_decide_div_mod_eq] at hb
        have := of_decide_eq_false hb; omega
      rw [h0] at e
      simp only [Bool.false_eq_true, if_false]
      rw [e]; refine ⟨by simpa using ih.1, by simpa using ih.2.1, by omega⟩
    · have h0 : x / 2 ^ k % 2 = 1 := by
        rw [Nat.testBit_eq_decide_div_mod_eq] at hb
        exact of_decide_eq_true hb
      rw [h0] at e
      simp only [if_true]
      rw [e]; refine ⟨by omega, fun _ => by simp, by omega⟩

theorem pow_mono_of {a b : Nat} (h : (2 : Nat) ^ a < 2 ^ b) : a < b := (Nat.pow_lt_pow_iff_right (by omega)).1 h

theorem need_spec (x : Nat) (hx : x < 18446744073709551616) : x < 2 ^ need x ∧ (need x ≠ 0 → 2 ^ (need x - 1) ≤ x) ∧ need x ≤ 64 := by
  unfold need
  have h64 : (18446744073709551616 : Nat) = 2 ^ 64 := by decide
  by_cases h0 : x = 0
  · subst h0; refine ⟨by decide, ?_, by decide⟩
    intro h; exact absurd (show Lib.bitLen 0 = 0 by decide) h
  · have h := Lib.bitLenAux_bounds 64 x (by rw [← h64]; exact hx) h0
    have h1 : Lib.bitLen x = Lib.bitLenAux 64 x := rfl
    rw [h1]
    refine ⟨h.2.2, fun _ => h.2.1, ?_⟩
    have : (2 : Nat) ^ (Lib.bitLenAux 64 x - 1) < 2 ^ 64 := Nat.lt_of_le_of_lt h.2.1 (by rw [← h64]; exact hx)
    have := pow_mono_of this
    omega

theorem need_unique {x a b : Nat} (h1 : x < 2 ^ a) (h2 : a ≠ 0 → 2 ^ (a - 1) ≤ x) (h3 : x < 2 ^ b) (h4 : b ≠ 0 → 2 ^ (b - 1) ≤ x) : a = b := by
  rcases Nat.lt_trichotomy a b with h | h | h
  · have h5 := h4 (by omega)
    have h6 : (2 : Nat) ^ a ≤ 2 ^ (b - 1) := Nat.pow_le_pow_right (by omega) (by omega)
    omega
  · exact h
  · have h5 := h2 (by omega)
    have h6 : (2 : Nat) ^ b ≤ 2 ^ (a - 1) := Nat.pow_le_pow_right (by omega) (by omega)
    omega

theorem needTo_all (x : Nat) (hx : x < 18446744073709551616) : needTo x 64 = need x := by
  have h := needTo_bd x 64 (by omega)
  have h64 : (18446744073709551616 : Nat) = 2 ^ 64 := by decide
  rw [Nat.mod_eq_of_lt (by rw [← h64]; exact hx)] at h
  have k := need_spec x hx
  exact need_unique h.1 h.2.1 k.1 k.2.1

/-- A number takes at most n bits just if it is below 2^n. -/
theorem need_le_iff (x n : Nat) (hx : x < 18446744073709551616) : need x ≤ n ↔ x < 2 ^ n := by
  have k := need_spec x hx
  constructor
  · intro h; exact Nat.lt_of_lt_of_le k.1 (Nat.pow_le_pow_right (by omega) h)
  · intro h
    by_cases h0 : need x = 0
    · omega
    · have := Nat.lt_of_le_of_lt (k.2.1 h0) h
      have := pow_mono_of this
      omega

end L
end Go.Proofs.YtlpnbkfcbamnbaaDoor
