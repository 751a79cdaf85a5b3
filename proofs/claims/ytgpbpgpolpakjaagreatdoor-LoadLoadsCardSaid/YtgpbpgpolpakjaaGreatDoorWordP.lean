/- Proof text. -/
import Derived.Laws.FloatArith
import Derived.Laws.Cover3
import Derived.Laws.ComplexArith
import Derived.Test.YtgpbpgpolpakjaaGreatDoorMaths
import Derived.Test.YtgpbpgpolpakjaaGreatDoorBase
import Derived.Laws.Bits64b
set_option maxHeartbeats 2000000
set_option linter.unusedVariables false
set_option linter.unusedSimpArgs false
namespace Go.Proofs.YtgpbpgpolpakjaaGreatDoor
open Go
namespace L
def fl (n : Int) : Nat := floatOfInt .f64 n
def Small (n : Int) : Prop := n.natAbs < 9007199254740992
def Rep (d : Ieee.Datum) (n : Int) : Prop := ∃ s M P, d = .number s M P ∧ P ≤ 0 ∧ s = decide (n < 0) ∧ ∀ base : Int, base ≤ P → Ieee.signed s M (P - base).toNat = n * 2 ^ (-base).toNat
theorem z4t (n : Int) : fl n = Ieee.double.nearest (n < 0) n.natAbs 0 := rfl
theorem zgn (neg : Bool) (n : Nat) : Ieee.Toward.even.cut neg n 0 = n := by
 unfold Ieee.Toward.cut
 simp [Nat.mod_one]
theorem zh1 {m : Nat} (h : m ≠ 0) : 2 ^ m.log2 ≤ m ∧ m < 2 ^ (m.log2 + 1) := ⟨Nat.log2_self_le h, Nat.lt_log2_self⟩
theorem zi0 {m : Nat} (h0 : m ≠ 0) (h : m < 9007199254740992) : m.log2 ≤ 52 := by
 have := (Nat.log2_lt h0 (k := 53)).2 h
 omega
theorem zeq : Ieee.double.leastPlace = -1074 := by decide
theorem zhp : Ieee.double.fractionBits = 52 := rfl
theorem zq5 (neg : Bool) (m : Nat) (h0 : m ≠ 0) (h : m < 9007199254740992) :
  Ieee.double.nearest neg m 0 = Ieee.double.word neg ((m.log2 + 1022) * 4503599627370496 + m * 2 ^ (52 - m.log2)) := by
 have hl := zi0 h0 h
 have hb := zh1 h0
 unfold Ieee.Format.nearest
 rw [if_neg h0, zeq, zhp]
 have hlast : max ((0 : Int) + (m.log2 : Nat) - (52 : Nat)) (-1074) = (m.log2 : Int) - 52 := by omega
 simp only [hlast]
 rw [show ((0 : Int) - ((m.log2 : Int) - 52)).toNat = 52 - m.log2 from by omega, show (((m.log2 : Int) - 52) - 0).toNat = 0 from by omega, zgn,
  show (((m.log2 : Int) - 52) - (-1074)).toNat = m.log2 + 1022 from by omega, Nat.shiftLeft_eq]
 have hK : m * 2 ^ (52 - m.log2) < 9007199254740992 := by
  have h1 : m * 2 ^ (52 - m.log2) < 2 ^ (m.log2 + 1) * 2 ^ (52 - m.log2) := Nat.mul_lt_mul_of_pos_right hb.2 (Nat.two_pow_pos _)
  rw [← Nat.pow_add, show m.log2 + 1 + (52 - m.log2) = 53 from by omega] at h1
  omega
 have hbin : Ieee.double.binade = 4503599627370496 := by decide
 have hinf : Ieee.double.infRung = 2047 * 4503599627370496 := by decide
 rw [hbin, hinf, Nat.min_eq_left (by omega)]
theorem zsn (s : Bool) (m a b : Nat) : Ieee.signed s (m * 2 ^ a) b = (if s then -(m : Int) else (m : Int)) * 2 ^ (a + b) := by
 unfold Ieee.signed
 rw [Nat.shiftLeft_eq]
 have e : ((m * 2 ^ a * 2 ^ b : Nat) : Int) = (m : Int) * 2 ^ (a + b) := by
  rw [Nat.mul_assoc, ← Nat.pow_add]; simp
 cases s
 ·simp only [Bool.false_eq_true, if_false]; exact e
 ·simp only [if_true]; rw [e, Int.neg_mul]
theorem zee (n : Int) (h : Small n) : Rep (Ieee.double.read (fl n)) n := by
 unfold Small at h
 have hbin : Ieee.double.binade = 4503599627370496 := by decide
 have hsw : Ieee.double.signWeight = 9223372036854775808 := by decide
 have hinf : Ieee.double.infRung = 2047 * 4503599627370496 := by decide
 by_cases hn : n = 0
 ·subst hn
  have e : Ieee.double.read (fl 0) = .number false 0 (-1074) := by decide
  rw [e]
  refine ⟨false, 0, -1074, rfl, by omega, rfl, fun base hb => ?_⟩
  unfold Ieee.signed
  simp
 ·have h0 : n.natAbs ≠ 0 := by omega
  rw [z4t, zq5 _ _ h0 h]
  have hl := zi0 h0 h
  have hb := zh1 h0
  generalize hm : n.natAbs = m at *
  have hK1 : m * 2 ^ (52 - m.log2) < 9007199254740992 := by
   have h1 : m * 2 ^ (52 - m.log2) < 2 ^ (m.log2 + 1) * 2 ^ (52 - m.log2) := Nat.mul_lt_mul_of_pos_right hb.2 (Nat.two_pow_pos _)
   rw [← Nat.pow_add, show m.log2 + 1 + (52 - m.log2) = 53 from by omega] at h1
   omega
  have hK2 : 4503599627370496 ≤ m * 2 ^ (52 - m.log2) := by
   have h1 : 2 ^ m.log2 * 2 ^ (52 - m.log2) ≤ m * 2 ^ (52 - m.log2) := Nat.mul_le_mul_right _ hb.1
   rw [← Nat.pow_add, show m.log2 + (52 - m.log2) = 52 from by omega] at h1
   omega
  obtain ⟨K, hKe⟩ : ∃ K, K = m * 2 ^ (52 - m.log2) := ⟨_, rfl⟩
  rw [← hKe] at hK1 hK2 ⊢
  have hread : Ieee.double.read (Ieee.double.word (decide (n < 0)) ((m.log2 + 1022) * 4503599627370496 + K)) = .number (decide (n < 0)) K ((m.log2 : Int) - 52) := by
   unfold Ieee.Format.read Ieee.Format.word
   rw [hsw, hbin, hinf, zeq]
   have e1 : (if decide (n < 0) = true then 9223372036854775808 + ((m.log2 + 1022) * 4503599627370496 + K) else (m.log2 + 1022) * 4503599627370496 + K) % 9223372036854775808 = (m.log2 + 1022) * 4503599627370496 + K := by
    split <;> omega
   have e2 : ((if decide (n < 0) = true then 9223372036854775808 + ((m.log2 + 1022) * 4503599627370496 + K) else (m.log2 + 1022) * 4503599627370496 + K) / 9223372036854775808 % 2 == 1) = decide (n < 0) := by
    by_cases hs : n < 0
    ·simp only [hs, decide_true, if_true]; rw [beq_iff_eq]; omega
    ·simp only [hs, decide_false, Bool.false_eq_true, if_false]; rw [beq_eq_false_iff_ne]; omega
   simp only [e1, e2]
   rw [if_neg (by omega), if_pos (by omega)]
   have e3 : 4503599627370496 + ((m.log2 + 1022) * 4503599627370496 + K) % 4503599627370496 = K := by omega
   have e4 : ((m.log2 + 1022) * 4503599627370496 + K) / 4503599627370496 - 1 = m.log2 + 1022 := by omega
   rw [e3, e4, show (-1074 : Int) + ((m.log2 + 1022 : Nat) : Int) = (m.log2 : Int) - 52 from by omega]
  rw [hread]
  refine ⟨decide (n < 0), K, (m.log2 : Int) - 52, rfl, by omega, rfl, fun base hbase => ?_⟩
  rw [hKe, zsn]
  have e5 : (52 - m.log2) + ((m.log2 : Int) - 52 - base).toNat = (-base).toNat := by omega
  rw [e5]
  congr 1
  by_cases hs : n < 0
  ·simp only [hs, decide_true, if_true]; omega
  ·simp only [hs, decide_false, Bool.false_eq_true, if_false]; omega
theorem zoy (a b : Int) (e : Nat) : compare (a * 2 ^ e) (b * 2 ^ e) = compare a b := by
 have hp : (0 : Int) < 2 ^ e := Int.pow_pos (by omega)
 have e1 : a * 2 ^ e < b * 2 ^ e ↔ a < b := ⟨fun h => Int.lt_of_mul_lt_mul_right h (Int.le_of_lt hp), fun h => Int.mul_lt_mul_of_pos_right h hp⟩
 have e2 : a * 2 ^ e = b * 2 ^ e ↔ a = b := ⟨fun h => Int.eq_of_mul_eq_mul_right (by omega) h, fun h => by rw [h]⟩
 simp only [compare, compareOfLessAndEq, e1, e2]
theorem zmo (a b : Int) (ha : Small a) (hb : Small b) : Ieee.double.order (fl a) (fl b) = some (compare a b) := by
 obtain ⟨s, M, P, e1, _, _, h1⟩ := zee a ha
 obtain ⟨t, N, Q, e2, _, _, h2⟩ := zee b hb
 unfold Ieee.Format.order
 rw [e1, e2]
 simp only [Ieee.Datum.order]
 rw [h1 _ (Int.min_le_left P Q), h2 _ (Int.min_le_right P Q), zoy]
theorem zh2 {m : Nat} (h : m ≠ 0) (e : Nat) : (m * 2 ^ e).log2 = m.log2 + e := by
 have hb := zh1 h
 have hm : m * 2 ^ e ≠ 0 := Nat.mul_ne_zero h (Nat.ne_of_gt (Nat.two_pow_pos e))
 have h1 : 2 ^ (m.log2 + e) ≤ m * 2 ^ e := by rw [Nat.pow_add]; exact Nat.mul_le_mul_right _ hb.1
 have h2 : m * 2 ^ e < 2 ^ (m.log2 + e + 1) := by
  rw [show m.log2 + e + 1 = m.log2 + 1 + e from by omega, Nat.pow_add]; exact Nat.mul_lt_mul_of_pos_right hb.2 (Nat.two_pow_pos _)
 have h3 := (Nat.le_log2 hm).2 h1
 have h4 := (Nat.log2_lt hm).2 h2
 omega
theorem zoz (neg : Bool) (q d : Nat) (hq : q ≠ 0) : Ieee.Toward.even.cut neg (q * 2 ^ d) d = q := by
 unfold Ieee.Toward.cut
 rw [zh2 hq, Nat.min_eq_left (by omega), Nat.one_shiftLeft]
 have h1 : q * 2 ^ d / 2 ^ d = q := Nat.mul_div_cancel _ (Nat.two_pow_pos d)
 have h2 : q * 2 ^ d % 2 ^ d = 0 := Nat.mul_mod_left _ _
 have hp := Nat.two_pow_pos d
 simp only [h1, h2]
 have h3 : decide (2 ^ d < 2 * 0) = false := by simp
 have h4 : (2 ^ d == 2 * 0) = false := by rw [beq_eq_false_iff_ne]; omega
 rw [h3, h4]; rfl
theorem zo0 (neg : Bool) (m e : Nat) (h0 : m ≠ 0) (h : m < 9007199254740992) : Ieee.double.nearest neg (m * 2 ^ e) (-(e : Int)) = Ieee.double.nearest neg m 0 := by
 have hl := zi0 h0 h
 have hm : m * 2 ^ e ≠ 0 := Nat.mul_ne_zero h0 (Nat.ne_of_gt (Nat.two_pow_pos e))
 unfold Ieee.Format.nearest
 rw [if_neg h0, if_neg hm, zeq, zhp, zh2 h0]
 have hlast : max ((0 : Int) + (m.log2 : Nat) - (52 : Nat)) (-1074) = (m.log2 : Int) - 52 := by omega
 have hlast2 : max (-(e : Int) + ((m.log2 + e : Nat) : Int) - (52 : Nat)) (-1074) = (m.log2 : Int) - 52 := by omega
 simp only [hlast, hlast2]
 have hk : Ieee.Toward.even.cut neg ((m * 2 ^ e) <<< (-(e : Int) - ((m.log2 : Int) - 52)).toNat) (((m.log2 : Int) - 52) - -(e : Int)).toNat = m * 2 ^ (52 - m.log2) := by
  rw [Nat.shiftLeft_eq]
  rcases Nat.lt_or_ge (52 - m.log2) e with h1 | h1
  ·rw [show (-(e : Int) - ((m.log2 : Int) - 52)).toNat = 0 from by omega, show (((m.log2 : Int) - 52) - -(e : Int)).toNat = e - (52 - m.log2) from by omega, Nat.pow_zero, Nat.mul_one]
   have : m * 2 ^ e = m * 2 ^ (52 - m.log2) * 2 ^ (e - (52 - m.log2)) := by rw [Nat.mul_assoc, ← Nat.pow_add]; congr 2; omega
   rw [this]
   exact zoz _ _ _ (Nat.mul_ne_zero h0 (Nat.ne_of_gt (Nat.two_pow_pos _)))
  ·rw [show (((m.log2 : Int) - 52) - -(e : Int)).toNat = 0 from by omega, zgn, show (-(e : Int) - ((m.log2 : Int) - 52)).toNat = 52 - m.log2 - e from by omega, Nat.mul_assoc, ← Nat.pow_add]
   congr 2; omega
 have hk2 : Ieee.Toward.even.cut neg (m <<< ((0 : Int) - ((m.log2 : Int) - 52)).toNat) (((m.log2 : Int) - 52) - 0).toNat = m * 2 ^ (52 - m.log2) := by
  rw [show (((m.log2 : Int) - 52) - 0).toNat = 0 from by omega, zgn, show ((0 : Int) - ((m.log2 : Int) - 52)).toNat = 52 - m.log2 from by omega, Nat.shiftLeft_eq]
 rw [hk, hk2]
theorem zso (a b : Int) (ha : Small a) (hb : Small b) (hc : Small (a + b)) : Ieee.double.add (fl a) (fl b) = some (fl (a + b)) := by
 obtain ⟨s, M, P, e1, p1, s1, h1⟩ := zee a ha
 obtain ⟨t, N, Q, e2, p2, s2, h2⟩ := zee b hb
 unfold Ieee.Format.add
 rw [e1, e2]
 simp only [Ieee.Datum.sum]
 have hbase : min P Q ≤ 0 := by omega
 rw [h1 _ (Int.min_le_left P Q), h2 _ (Int.min_le_right P Q)]
 obtain ⟨e, he⟩ : ∃ e : Nat, min P Q = -(e : Int) := ⟨(-(min P Q)).toNat, by omega⟩
 rw [he, show (-(-(e : Int))).toNat = e from by omega]
 have htot : a * 2 ^ e + b * 2 ^ e = (a + b) * 2 ^ e := by rw [Int.add_mul]
 rw [htot]
 have hp : (0 : Int) < 2 ^ e := Int.pow_pos (by omega)
 by_cases h0 : a + b = 0
 ·rw [h0, Int.zero_mul, if_pos rfl, s1, s2]
  have : (decide (a < 0) && decide (b < 0)) = false := by
   by_cases h3 : a < 0
   ·have : ¬ b < 0 := by omega
    simp [this]
   ·simp [h3]
  rw [this, z4t]
  simp [Ieee.Format.nearest, Ieee.Format.write]
 ·have hne : (a + b) * 2 ^ e ≠ 0 := Int.mul_ne_zero h0 (by omega)
  have hneg : decide ((a + b) * 2 ^ e < 0) = decide (a + b < 0) := by
   have : (a + b) * 2 ^ e < 0 ↔ a + b < 0 := by
    constructor
    ·intro h; exact Int.lt_of_mul_lt_mul_right (by rw [Int.zero_mul]; exact h) (Int.le_of_lt hp)
    ·intro h; have := Int.mul_lt_mul_of_pos_right h hp; rwa [Int.zero_mul] at this
   simp only [this]
  have hab : ((a + b) * 2 ^ e).natAbs = (a + b).natAbs * 2 ^ e := by rw [Int.natAbs_mul, Int.natAbs_pow]; rfl
  rw [if_neg hne, hneg, hab]
  show some (Ieee.double.nearest (decide (a + b < 0)) ((a + b).natAbs * 2 ^ e) (-(e : Int))) = _
  rw [zo0 _ _ _ (by omega) hc]
  rfl
theorem z8x (a b : Int) (ha : Small a) (hb : Small b) : (FloatKind.f64.format.order (fl a) (fl b) == some .gt || FloatKind.f64.format.order (fl a) (fl b) == some .eq) = decide (b ≤ a) := by
 rw [show FloatKind.f64.format = Ieee.double from rfl, zmo a b ha hb]
 simp only [compare, compareOfLessAndEq]
 by_cases h1 : a < b
 ·rw [if_pos h1]; have : ¬ b ≤ a := by omega
  simp [this]
 ·rw [if_neg h1]
  by_cases h2 : a = b
  ·simp [h2]
  ·have : b ≤ a := by omega
   simp [h2, this]
end L
section
open L
variable {P : Program} (w : World)
theorem znn (ts : Array TypeId) (t : TypeId) (a b : Int) (ha : Small a) (hb : Small b) : (Builtin.min_ ts t #[.float .f64 (fl a), .float .f64 (fl b)]).run P w = .ok (.float .f64 (fl (min a b))) w := by
 have h := zmo a b ha hb
 have hf : FloatKind.f64.format = Ieee.double := rfl
 simp only [Builtin.min_, List.foldlM_cons, List.foldlM_nil, Builtin.min2, hf, h]
 simp only [compare, compareOfLessAndEq]
 by_cases h1 : a < b
 ·rw [if_pos h1, show min a b = a from by omega]; rfl
 ·rw [if_neg h1]
  by_cases h2 : a = b
  ·subst h2; rw [if_pos rfl, show min a a = a from by omega, ite_self]; rfl
  ·rw [if_neg h2, show min a b = b from by omega]; rfl
theorem zno (ts : Array TypeId) (t : TypeId) (a b : Int) (ha : Small a) (hb : Small b) : (Builtin.max_ ts t #[.float .f64 (fl a), .float .f64 (fl b)]).run P w = .ok (.float .f64 (fl (max a b))) w := by
 have h := zmo a b ha hb
 have hf : FloatKind.f64.format = Ieee.double := rfl
 simp only [Builtin.max_, List.foldlM_cons, List.foldlM_nil, Builtin.max2, hf, h]
 simp only [compare, compareOfLessAndEq]
 by_cases h1 : a < b
 ·rw [if_pos h1, show max a b = b from by omega]; rfl
 ·rw [if_neg h1]
  by_cases h2 : a = b
  ·subst h2; rw [if_pos rfl, show max a a = a from by omega, ite_self]; rfl
  ·rw [if_neg h2, show max a b = a from by omega]; rfl
end
section
open L
variable {P : Program} (w : World)
theorem zge (t : TypeId) (a b c d : Int) (ha : Small a) (hb : Small b) (hc : Small c) (hd : Small d) (hac : Small (a + c)) (hbd : Small (b + d)) :
  (binOp .add t (.complex .f64 (fl a) (fl b)) (.complex .f64 (fl c) (fl d))).run P w = .ok (.complex .f64 (fl (a + c)) (fl (b + d))) w := by
 refine run_complex_sum (P := P) w .add (.inl rfl) t .f64 _ _ _ _ _ _ ?_
 have h1 := zso a c ha hc hac
 have h2 := zso b d hb hd hbd
 have hf : FloatKind.f64.format = Ieee.double := rfl
 simp [cSumBits, floatBits, hf, h1, h2]
end
open Go
namespace L
def pinf : Nat := 9218868437227405312
def ninf : Nat := 18442240474082181120
theorem zhq : Ieee.double.read pinf = .infinity false := by decide +kernel
theorem zhr : Ieee.double.read ninf = .infinity true := by decide +kernel
theorem zxl : Ieee.double.write (.infinity false) = pinf := by decide +kernel
theorem zxm : Ieee.double.write (.infinity true) = ninf := by decide +kernel
theorem z8y (a : Int) (h : Small a) : Ieee.double.order pinf (fl a) = some .gt := by
 obtain ⟨s, M, P, e, _⟩ := zee a h
 unfold Ieee.Format.order; rw [e, zhq]; rfl
theorem z7z (a : Int) (h : Small a) : Ieee.double.order (fl a) pinf = some .lt := by
 obtain ⟨s, M, P, e, _⟩ := zee a h
 unfold Ieee.Format.order; rw [e, zhq]; rfl
theorem z8z (a : Int) (h : Small a) : Ieee.double.order ninf (fl a) = some .lt := by
 obtain ⟨s, M, P, e, _⟩ := zee a h
 unfold Ieee.Format.order; rw [e, zhr]; rfl
theorem z8a (a : Int) (h : Small a) : Ieee.double.order (fl a) ninf = some .gt := by
 obtain ⟨s, M, P, e, _⟩ := zee a h
 unfold Ieee.Format.order; rw [e, zhr]; rfl
theorem z8b : Ieee.double.order pinf pinf = some .eq := by unfold Ieee.Format.order; rw [zhq]; rfl
theorem z8c : Ieee.double.order ninf ninf = some .eq := by unfold Ieee.Format.order; rw [zhr]; rfl
theorem z81 (a : Int) (h : Small a) : Ieee.double.add pinf (fl a) = some pinf := by
 obtain ⟨s, M, P, e, _⟩ := zee a h
 unfold Ieee.Format.add; rw [e, zhq]
 show (some (Ieee.Datum.infinity false)).map Ieee.double.write = _
 rw [Option.map_some, zxl]
theorem z88 (a : Int) (h : Small a) : Ieee.double.add ninf (fl a) = some ninf := by
 obtain ⟨s, M, P, e, _⟩ := zee a h
 unfold Ieee.Format.add; rw [e, zhr]
 show (some (Ieee.Datum.infinity true)).map Ieee.double.write = _
 rw [Option.map_some, zxm]
def lxf : Rc → Nat
 | none => pinf
 | some p => fl p.1
def uxf : Rc → Nat
 | none => ninf
 | some p => fl p.2
def cx (r : Rc) : Value := .complex .f64 (lxf r) (uxf r)
def Bd (r : Rc) : Prop := ∀ p, r = some p → (-100000000000 ≤ p.1 ∧ p.1 ≤ 100000000000) ∧ (-100000000000 ≤ p.2 ∧ p.2 ≤ 100000000000)
theorem sml {n : Int} (h : -200000000000 ≤ n ∧ n ≤ 200000000000) : Small n := by unfold Small; omega
theorem Bd.some {a b : Int} (h : (-100000000000 ≤ a ∧ a ≤ 100000000000) ∧ (-100000000000 ≤ b ∧ b ≤ 100000000000)) : Bd (some (a, b)) := fun p e => by injection e with e; subst e; exact h
end L
section
open L
variable {P : Program} (w : World)
theorem zxn (ts : Array TypeId) (t : TypeId) (r s : Rc) (hr : Bd r) (hs : Bd s) : (Builtin.min_ ts t #[.float .f64 (lxf r), .float .f64 (lxf s)]).run P w = .ok (.float .f64 (lxf (bo r s))) w := by
 have hf : FloatKind.f64.format = Ieee.double := rfl
 cases r with
 | none =>
   cases s with
   | none => simp only [lxf, bo, Builtin.min_, List.foldlM_cons, List.foldlM_nil, Builtin.min2, hf, z8b, ite_self]; rfl
   | some q =>
     have h := z8y q.1 (sml (by have := (hs q rfl).1; omega))
     simp only [lxf, bo, Builtin.min_, List.foldlM_cons, List.foldlM_nil, Builtin.min2, hf, h]; rfl
 | some p =>
   cases s with
   | none =>
     have h := z7z p.1 (sml (by have := (hr p rfl).1; omega))
     simp only [lxf, bo, Builtin.min_, List.foldlM_cons, List.foldlM_nil, Builtin.min2, hf, h]; rfl
   | some q => exact znn w ts t p.1 q.1 (sml (by have := (hr p rfl).1; omega)) (sml (by have := (hs q rfl).1; omega))
theorem zxo (ts : Array TypeId) (t : TypeId) (r s : Rc) (hr : Bd r) (hs : Bd s) : (Builtin.max_ ts t #[.float .f64 (uxf r), .float .f64 (uxf s)]).run P w = .ok (.float .f64 (uxf (bo r s))) w := by
 have hf : FloatKind.f64.format = Ieee.double := rfl
 cases r with
 | none =>
   cases s with
   | none => simp only [uxf, bo, Builtin.max_, List.foldlM_cons, List.foldlM_nil, Builtin.max2, hf, z8c, ite_self]; rfl
   | some q =>
     have h := z8z q.2 (sml (by have := (hs q rfl).2; omega))
     simp only [uxf, bo, Builtin.max_, List.foldlM_cons, List.foldlM_nil, Builtin.max2, hf, h]; rfl
 | some p =>
   cases s with
   | none =>
     have h := z8a p.2 (sml (by have := (hr p rfl).2; omega))
     simp only [uxf, bo, Builtin.max_, List.foldlM_cons, List.foldlM_nil, Builtin.max2, hf, h]; rfl
   | some q => exact zno w ts t p.2 q.2 (sml (by have := (hr p rfl).2; omega)) (sml (by have := (hs q rfl).2; omega))
theorem zxp (t : TypeId) (r : Rc) (e : Int) (hr : Bd r) (he : -100000000000 ≤ e ∧ e ≤ 100000000000) :
  (binOp .add t (.complex .f64 (lxf r) (uxf r)) (.complex .f64 (fl e) (fl e))).run P w = .ok (.complex .f64 (lxf (mv r e)) (uxf (mv r e))) w := by
 cases r with
 | none =>
   refine run_complex_sum (P := P) w .add (.inl rfl) t .f64 _ _ _ _ _ _ ?_
   have h1 := z81 e (sml (by omega))
   have h2 := z88 e (sml (by omega))
   have hf : FloatKind.f64.format = Ieee.double := rfl
   simp [cSumBits, floatBits, hf, h1, h2, lxf, uxf, mv]
 | some p =>
   obtain ⟨h1, h2⟩ := hr p rfl
   exact zge w t p.1 p.2 e e (sml (by omega)) (sml (by omega)) (sml (by omega)) (sml (by omega)) (sml (by omega)) (sml (by omega))
end
end Go.Proofs.YtgpbpgpolpakjaaGreatDoor
set_option maxRecDepth 100000
namespace Go.Proofs.YtgpbpgpolpakjaaGreatDoor
open Go.RowKit L
theorem zwb : fl 0 = 0 := by decide
theorem z19 (x : Nat) (hx : x < 18446744073709551616) : bits BinOp.and IntKind.u64 (x : Int) 1 = (((x.testBit 0).toNat : Nat) : Int) := by
 have e := u64_and_nat x 1 hx (by omega)
 rw [Nat.and_one_is_mod] at e
 rw [show ((1 : Nat) : Int) = 1 from rfl] at e
 rw [e, Nat.testBit_zero]
 rcases Nat.mod_two_eq_zero_or_one x with h | h <;> rw [h] <;> rfl
theorem zi1 (x : Nat) (n : Int) (w : World) (hx : x < 18446744073709551616) :
  Calls Tryz.prog 194 #[.int .u64 (x : Int), .int .i64 n] w fun e w' => e = .returned (.int .i64 (ex x.testBit (z8 n))) ∧ w = w' := by
 have hc := zd6 n
 have ho := zbu x (z8 n)
 have HE := hid (z5d x (z8 n))
 have HF := hid (fun W => zka n W)
 have HO := hid (fun W => zft x n W hx)
 generalize ex x.testBit (z8 n) = z at *
 generalize z8 n = c at *
 generalize zi x c = o at *
 go_enter Tryz.func194, Tryz.ntmps194
 go_wp2_with (first
  | (go_at_call 171; refine (HO.out _).mono ?_; rintro e w' ⟨rfl, rfl⟩)
  | (go_at_call 198; refine (HF.out _).mono ?_; rintro e w' ⟨rfl, rfl⟩))
 go_ret
 have he := HE.out
 exact ⟨by rw [he]; go_num, rfl⟩
theorem zp7 (x : Nat) (n : Int) (w : World) (hx : x < 18446744073709551616) :
  Calls Tryz.prog 195 #[.int .u64 (x : Int), .int .i64 n] w fun e w' => e = .returned (.complex .f64 (fl (lo x.testBit (z8 n))) (fl (hi x.testBit (z8 n)))) ∧ w = w' := by
 have hc := zd6 n
 have HF := hid (fun W => zka n W)
 generalize z8 n = c at *
 rcases Nat.eq_zero_or_pos c with h0 | h0
 ·subst h0
  go_enter Tryz.func195, Tryz.ntmps195
  go_wp2_with (go_at_call 198; refine (HF.out _).mono ?_; rintro e w' ⟨rfl, rfl⟩)
  go_ret
  exact ⟨by rw [show lo x.testBit 0 = 0 from rfl, show hi x.testBit 0 = 0 from rfl, zwb]; rfl, rfl⟩
 ·have hc0 : ((c : Int) == 0) = false := by rw [beq_eq_false_iff_ne]; omega
  go_enter Tryz.func195, Tryz.ntmps195
  go_wp2_with (go_at_call 198; refine (HF.out _).mono ?_; rintro e w' ⟨rfl, rfl⟩)
  go_loop [0, 5, 6, 7, 13] (fun a l h e i => ∃ k : Nat, k ≤ c ∧ a = .int .u64 (x / 2 ^ k : Nat) ∧ l = .int .i64 (lo64 x.testBit k) ∧ h = .int .i64 (hi64 x.testBit k) ∧ e = .int .i64 (ex x.testBit k) ∧ i = .int .i64 k) (fun _ _ _ _ i => c - (intOf i).toNat)
  case atStart => exact ⟨0, by omega, by simp, rfl, rfl, rfl, rfl⟩
  case round =>
   obtain ⟨k, hk, rfl, rfl, rfl, rfl, rfl⟩ := hrel
   have hex := zcp x.testBit k
   rcases Nat.lt_or_ge k c with hlt | hge
   ·have hki : (k : Int) < (c : Int) := by omega
    have hX : x / 2 ^ k < 18446744073709551616 := Nat.lt_of_le_of_lt (Nat.div_le_self _ _) hx
    have hb := z19 (x / 2 ^ k) hX
    have hb2 : (x / 2 ^ k).testBit 0 = x.testBit k := by rw [Nat.testBit_div_two_pow]; simp
    rw [hb2] at hb
    have hs := hid (show ex x.testBit (k + 1) = ex x.testBit k + (((x.testBit k).toNat : Nat) : Int) * 2 - 1 by
     simp only [ex]; cases x.testBit k <;> simp [sgn] <;> omega)
    have hl := hid (zy5 x.testBit k (by omega))
    have hh := hid (zy6 x.testBit k (by omega))
    have hd := hid (show x / 2 ^ (k + 1) = x / 2 ^ k / 2 by rw [Nat.pow_succ, Nat.div_div_eq_div_mul])
    have hex2 := zcp x.testBit (k + 1)
    have ht : (x.testBit k).toNat ≤ 1 := Bool.toNat_le _
    clear hb2
    generalize (x.testBit k).toNat = tt at *
    generalize x / 2 ^ k = X at *
    generalize lo64 x.testBit k = L0 at *
    generalize hi64 x.testBit k = H0 at *
    generalize ex x.testBit k = E0 at *
    go_wp2
    go_round
    case rel => exact ⟨k + 1, by omega, by rw [hd.out]; simp, by rw [hl.out, hs.out]; go_num, by rw [hh.out, hs.out]; go_num, by rw [hs.out]; go_num, by go_num⟩
    case measure => simp [intOf]; omega
   ·obtain rfl : k = c := by omega
    have e1 : lo64 x.testBit k = lo x.testBit k := by unfold lo64; rw [if_neg (by omega)]
    have e2 : hi64 x.testBit k = hi x.testBit k := by unfold hi64; rw [if_neg (by omega)]
    have hki : ¬ ((k : Int) < (k : Int)) := by omega
    rw [e1, e2]
    go_wp2
    go_ret
    exact ⟨rfl, rfl⟩
def Tab (w : World) : Prop := ∀ j, j < 64 → w.cell? ⟨1, j, none⟩ = some (.int .u8 (Lib.deBruijn64tab.getD j 0 : Nat))
theorem Tab.kept {w w' : World} (h : Tab w) (hb : w'.heap[1]? = w.heap[1]?) : Tab w' := fun j hj => by
 rw [← h j hj]; exact World.cell?_of_block hb
theorem Tab.pos {w : World} (h : Tab w) : 1 < w.heap.size := by
 have := h 0 (by omega)
 rcases Nat.lt_or_ge 1 w.heap.size with h0 | h0
 ·exact h0
 ·unfold World.cell? at this
  rw [Array.getElem?_eq_none (show w.heap.size ≤ (⟨1, 0, none⟩ : Addr).block from h0)] at this
  simp at this
theorem Tab.below {w w' : World} (h : Tab w) (hb : Below w.heap.size w w') : Tab w' := h.kept (hb.block 1 h.pos)
theorem z8d (x a : Nat) (hx : x < 18446744073709551616) (hx0 : x ≠ 0) (hlow : x &&& (18446744073709551616 - x) = a) :
  IntKind.u64.wrap (bits BinOp.and IntKind.u64 (x : Int) (IntKind.u64.wrap (-(x : Int))) * 285870213051353865) / 288230376151711744 = ((a * 285870213051353865 % 18446744073709551616 / 288230376151711744 : Nat) : Int) := by
 have e1 : IntKind.u64.wrap (-(x : Int)) = ((18446744073709551616 - x : Nat) : Int) := by rw [IntKind.wrap_u64]; omega
 rw [e1, u64_and_nat x _ hx (by omega), hlow, IntKind.wrap_u64]
 omega
theorem z5y (x k idx : Nat) (w : World) (hx0 : ((x : Int) == 0) = false)
  (key : IntKind.u64.wrap (bits BinOp.and IntKind.u64 (x : Int) (IntKind.u64.wrap (-(x : Int))) * 285870213051353865) / 288230376151711744 = (idx : Int))
  (hi : idx < 64) (hk : k < 64) (hcell : w.cell? ⟨1, idx, none⟩ = some (.int .u8 k)) :
  Calls Tryz.prog 201 #[.int .u64 x] w fun e w' => e = .returned (.int .i64 k) ∧ w = w' := by
 go_enter Tryz.func201, Tryz.ntmps201
 go_wp2_with (simp only [key])
 go_ret
 exact ⟨rfl, rfl⟩
theorem z8e (x : Nat) (w : World) (hx : x < 18446744073709551616) (hx0 : x ≠ 0) (hT : Tab w) :
  Calls Tryz.prog 201 #[.int .u64 x] w fun e w' => e = .returned (.int .i64 (Lib.ctz 64 x : Nat)) ∧ w = w' := by
 obtain ⟨hlow, hk⟩ := Lib.lowest_bit 64 x hx0 hx
 obtain ⟨hi, htab⟩ := Lib.deBruijn64_at _ hk
 have hcell := hT _ hi
 rw [htab] at hcell
 exact z5y x _ _ w (by simp; omega) (z8d x _ hx hx0 hlow) hi hk hcell
theorem z8f (x : Nat) (hx : x < 18446744073709551616) : bits BinOp.and IntKind.u64 (x : Int) 255 = ((x &&& 255 : Nat) : Int) := u64_and_nat x 255 hx (by omega)
theorem z2a (x : Nat) (h0 : 0 < x) (hx : x < 18446744073709551616) : bits BinOp.and IntKind.u64 (x : Int) ((x : Int) - 1) = ((x &&& (x - 1) : Nat) : Int) := by
 rw [show ((x : Int) - 1) = ((x - 1 : Nat) : Int) from by omega]
 exact u64_and_nat x (x - 1) hx (by omega)
theorem zux (x : Nat) (k : Int) (w : World) (hx : x < 18446744073709551616) (h : k < 0 ∨ (zi x 64 : Int) ≤ k) :
  Calls Tryz.prog 175 #[.int .u64 (x : Int), .int .i64 k] w fun e w' => e = .returned (.int .i64 64) ∧ w = w' := by
 have HO := hid (fun W => zgr x W hx)
 by_cases h0 : k < 0
 ·have hd : decide (k < 0) = true := decide_eq_true h0
  go_enter Tryz.func175, Tryz.ntmps175
  go_wp2_with fail
  go_step3
  go_wp2
  rw [Exit.noGoto_ret]
  go_ret
  exact ⟨rfl, rfl⟩
 ·have hd : decide (k < 0) = false := decide_eq_false h0
  have h1 : (zi x 64 : Int) ≤ k := by omega
  generalize zi x 64 = o at *
  go_enter Tryz.func175, Tryz.ntmps175
  go_wp2_with fail
  go_step3
  go_wp2_with (go_at_call 197; refine (HO.out _).mono ?_; rintro e w' ⟨rfl, rfl⟩)
  rw [Exit.noGoto_ret]
  go_ret
  exact ⟨rfl, rfl⟩
theorem zzn (x p : Nat) (k : Nat) (w : World) (hx : x < 18446744073709551616) (hT : Tab w) (hp : x.testBit p = true) (hk : zi x p = k) (h64 : p < 64) :
  Calls Tryz.prog 175 #[.int .u64 (x : Int), .int .i64 (k : Nat)] w fun e w' => e = .returned (.int .i64 (p : Nat)) ∧ w = w' := by
 have HO := hid (fun W => zgr x W hx)
 have hst := zet x p 64 h64 hp
 have ho64 := zbu x 64
 generalize zi x 64 = o at *
 have hki : (k : Int) < (o : Int) := by omega
 have hk2 : ¬ (o : Int) ≤ (k : Int) := by omega
 have HP := hid hp
 have HK := hid hk
 clear hp hk
 go_enter Tryz.func175, Tryz.ntmps175
 go_wp2_with fail
 refine zid (fun l a' w' => (l = 0 ∨ l = 1) ∧ w' = w ∧ ∃ (W K P at0 : Nat) (X Y Z : Int) (u2 u3 u6 u7 u8 u9 u10 u11 u12 u13 u14 u15 u16 u17 u18 u19 u20 u21 u22 u23 u24 u25 u26 u27 u28 u29 u30 u31 u32 u33 u34 u35 u36 u37 u38 u39 u40 u41 : Value), a' = { tmps := #[.int .u64 X, .int .i64 Y, u2, u3, .int .i64 0, .int .i64 Z, u6, u7, u8, u9, u10, u11, u12, u13, u14, u15, u16, u17, u18, u19, u20, u21, u22, u23, u24, u25, u26, u27, u28, u29, u30, u31, u32, u33, u34, u35, u36, u37, u38, u39, u40, u41], defers := [] } ∧ X = (W : Nat) ∧ Y = (K : Nat) ∧ Z = (at0 : Nat) ∧ W < 18446744073709551616 ∧ K ≤ 64 ∧ at0 + P = p ∧ Hid (W.testBit P = true) ∧ Hid (zi W P = K)) (fun l a' _ => if l = 0 then 200 + (64 - (intOf (a'.tmps.getD 5 undef)).toNat) else (intOf (a'.tmps.getD 1 undef)).toNat) ?_ ?_ ?_
 ·rintro l a' w' ⟨h | h, _⟩
  ·subst h; exact ⟨_, rfl⟩
  ·subst h; exact ⟨_, rfl⟩
 ·rintro l B hB a' w' ⟨hl, rfl, W, K, P, at0, X, Y, Z, u2, u3, u6, u7, u8, u9, u10, u11, u12, u13, u14, u15, u16, u17, u18, u19, u20, u21, u22, u23, u24, u25, u26, u27, u28, u29, u30, u31, u32, u33, u34, u35, u36, u37, u38, u39, u40, u41, rfl, rfl, rfl, rfl, hW, hK64, hP, hb, ho⟩ fall
  rcases hl with rfl | rfl
  ·injection hB with hB
   injection hB with _ hB
   subst hB
   have hmask : W &&& 255 < 18446744073709551616 := Nat.lt_of_le_of_lt Nat.and_le_left hW
   have hma := z8f W hW
   have H1 := hid (show ∀ V, Calls Tryz.prog 197 #[.int .u64 ((W &&& 255 : Nat) : Int)] V fun e w' => e = .returned (.int .i64 (zi W 8 : Nat)) ∧ V = w' from fun V => by
    have := zgr (W &&& 255) V hmask
    rw [zls W 8 64 (by omega)] at this
    exact this)
   have h8 := zbu W 8
   have HN := hid (z1o W P hb.out)
   have HO8 := hid (ho.out)
   generalize zi W 8 = c8 at *
   by_cases hc : c8 ≤ K
   ·have hc' : (c8 : Int) ≤ (K : Int) := by omega
    obtain ⟨n1, n2, n3⟩ := HN.out (by rw [ho.out]; exact hc)
    rw [ho.out] at n3
    have N2 := hid n2
    have N3 := hid n3
    clear n2 n3
    go_wp2_with (go_at_call 197; refine (H1.out _).mono ?_; rintro e w' ⟨rfl, rfl⟩)
    go_step3
    refine ⟨⟨Or.inl rfl, rfl, W / 256, K - c8, P - 8, at0 + 8, _, _, _, _, _, _, _, _, _, _, _, _, _, _, _, _, _, _, _, _, _, _, _, _, _, _, _, _, _, _, _, _, _, _, _, _, _, _, _, _, _, rfl, by omega, by omega, by omega, by omega, by omega, by omega, N2, N3⟩, ?_⟩
    simp [intOf]; omega
   ·have hc' : ¬ ((c8 : Int) ≤ (K : Int)) := by omega
    go_wp2_with (go_at_call 197; refine (H1.out _).mono ?_; rintro e w' ⟨rfl, rfl⟩)
    go_step3
    rename_i hQ
    refine hQ _ _ (fall 1 _ rfl _ _ ⟨Or.inr rfl, rfl, W, K, P, at0, _, _, _, _, _, _, _, _, _, _, _, _, _, _, _, _, _, _, _, _, _, _, _, _, _, _, _, _, _, _, _, _, _, _, _, _, _, _, _, _, _, rfl, rfl, rfl, rfl, hW, hK64, hP, hb, ho⟩ ?_)
    simp [intOf]; omega
  ·injection hB with hB
   injection hB with _ hB
   subst hB
   have hW0 : W ≠ 0 := by intro e; have := hb.out; subst e; simp at this
   have HTZ := hid (fun V hV => z8e W V hW hW0 hV)
   by_cases hK0 : K = 0
   ·subst hK0
    have hct := zy8 W P hW hb.out ho.out
    have hki : ¬ ((0 : Int) < ((0 : Nat) : Int)) := by omega
    rw [hct] at HTZ
    clear hct
    go_wp2_with (go_at_call 201; refine (HTZ.out _ hT).mono ?_; rintro e w' ⟨rfl, rfl⟩)
    go_ret
    exact ⟨by rw [← hP]; rfl, rfl⟩
   ·have hkp : (0 : Int) < (K : Int) := by omega
    obtain ⟨n1, n2, n3⟩ := z7o W P hW hb.out (by rw [ho.out]; omega)
    rw [ho.out] at n2
    have N1 := hid n1
    have N2 := hid n2
    have hap := z2a W (by omega) hW
    have hcut : W &&& (W - 1) < 18446744073709551616 := Nat.lt_of_le_of_lt Nat.and_le_left hW
    have hw1 : (1 : Int) ≤ (W : Int) := by omega
    clear n1 n2 hK0
    go_wp2_with (go_at_call 201; refine (HTZ.out _ hT).mono ?_; rintro e w' ⟨rfl, rfl⟩)
    go_step3
    refine ⟨⟨Or.inr rfl, rfl, W &&& (W - 1), K - 1, P, at0, _, _, _, _, _, _, _, _, _, _, _, _, _, _, _, _, _, _, _, _, _, _, _, _, _, _, _, _, _, _, _, _, _, _, _, _, _, _, _, _, _, rfl, by first | rfl | exact hap, by omega, rfl, hcut, by omega, hP, N1, N2⟩, ?_⟩
    simp [intOf]; omega
 ·intro enter
  go_wp2_with (go_at_call 197; refine (HO.out _).mono ?_; rintro e w' ⟨rfl, rfl⟩)
  go_step3
  rename_i hQ
  refine hQ _ _ (enter 0 _ rfl _ _ ?_)
  exact ⟨Or.inl rfl, rfl, x, k, p, 0, _, _, _, _, _, _, _, _, _, _, _, _, _, _, _, _, _, _, _, _, _, _, _, _, _, _, _, _, _, _, _, _, _, _, _, _, _, _, _, _, _, rfl, rfl, rfl, rfl, hx, by omega, by omega, HP, HK⟩
theorem znp (x : Nat) (k : Int) (w : World) (hx : x < 18446744073709551616) (hT : Tab w) :
  Calls Tryz.prog 175 #[.int .u64 (x : Int), .int .i64 k] w fun e w' => e = .returned (.int .i64 (selN x k : Nat)) ∧ w = w' := by
 by_cases h : k < 0 ∨ (zi x 64 : Int) ≤ k
 ·rw [zy7 x k h]; exact zux x k w hx h
 ·obtain ⟨n, rfl⟩ := Int.eq_ofNat_of_zero_le (show 0 ≤ k by omega)
  obtain ⟨p, hp, h1, h2⟩ := znc x n 64 (by omega)
  rw [zv4 x p _ h1 (by rw [h2]) hp]
  exact zzn x p n w hx hT h1 h2 hp
end Go.Proofs.YtgpbpgpolpakjaaGreatDoor
