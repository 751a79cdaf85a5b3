/- The texts Math1, Math2, Math3, Math4, Math5, Math6, Math7, Math8, Math9, Math10, Math11, Math12, Math13, MathF, MathG, MathT, in one. -/
import Derived.Lib.BitFns
import Derived.WalkKit
import Derived.Lib.ItoaNum
import Derived.Lib.UnsafeStr
import Derived.Lib.TrailingZeros
/- Plain laws on words: bits of numbers, how many are 1, the byte-wise count of math/bits.OnesCount64; no program in sight. -/

set_option linter.unusedVariables false
set_option linter.unusedSimpArgs false
namespace Go.Proofs.YtgpbpgpolpakjaaGreatDoor
namespace L

/-- How many of the first n bits are 1. -/
def onesTo (w : Nat) : Nat → Nat
  | 0 => 0
  | n + 1 => onesTo w n + (w.testBit n).toNat

theorem onesTo_le (w n : Nat) : onesTo w n ≤ n := by
  induction n with
  | zero => simp [onesTo]
  | succ n ih => have := Bool.toNat_le (w.testBit n); simp only [onesTo]; omega

theorem onesTo_mono (w : Nat) {a b : Nat} (h : a ≤ b) : onesTo w a ≤ onesTo w b := by
  induction b with
  | zero => have : a = 0 := by omega
            subst this; exact Nat.le_refl _
  | succ b ih =>
    rcases Nat.lt_or_ge a (b + 1) with h1 | h1
    · have := ih (by omega); simp only [onesTo]; omega
    · have : a = b + 1 := by omega
      subst this; exact Nat.le_refl _

theorem onesTo_congr {v w : Nat} (n : Nat) (h : ∀ i, i < n → v.testBit i = w.testBit i) : onesTo v n = onesTo w n := by
  induction n with
  | zero => rfl
  | succ n ih => simp only [onesTo, ih (fun i hi => h i (by omega)), h n (by omega)]

theorem onesTo_add (w a b : Nat) : onesTo w (a + b) = onesTo w a + onesTo (w / 2 ^ a) b := by
  induction b with
  | zero => simp [onesTo]
  | succ b ih =>
    rw [show a + (b + 1) = (a + b) + 1 from by omega]
    simp only [onesTo, ih, Nat.testBit_div_two_pow]
    rw [show b + a = a + b from Nat.add_comm _ _]; omega

theorem onesTo_mod (w n : Nat) {k : Nat} (h : n ≤ k) : onesTo (w % 2 ^ k) n = onesTo w n :=
  onesTo_congr n fun i hi => by rw [Nat.testBit_mod_two_pow]; simp; omega

theorem onesTo_zero_word (n : Nat) : onesTo 0 n = 0 := by
  induction n with
  | zero => rfl
  | succ n ih => simp [onesTo, ih]

/-- Behind the bits that may be 1 no more come. -/
theorem onesTo_of_lt {w k n : Nat} (hw : w < 2 ^ k) (hk : k ≤ n) : onesTo w n = onesTo w k := by
  obtain ⟨d, rfl⟩ : ∃ d, n = k + d := ⟨n - k, by omega⟩
  rw [onesTo_add, Nat.div_eq_of_lt hw, onesTo_zero_word]; omega

theorem onesTo_mask (w n k : Nat) (h : n ≤ k) : onesTo (w &&& (2 ^ n - 1)) k = onesTo w n := by
  rw [Nat.and_two_pow_sub_one_eq_mod, onesTo_of_lt (Nat.mod_lt _ (Nat.two_pow_pos n)) h, onesTo_mod _ _ (Nat.le_refl n)]

/-- A number put together of bytes, the least first. -/
def nest : List Nat → Nat
  | [] => 0
  | b :: l => b + 256 * nest l

theorem nest_lt : ∀ l : List Nat, (∀ b ∈ l, b < 256) → nest l < 256 ^ l.length
  | [], _ => by simp [nest]
  | b :: l, h => by
    have h1 := nest_lt l (fun c hc => h c (List.mem_cons_of_mem _ hc))
    have h2 := h b List.mem_cons_self
    have h3 : 256 ^ (l.length + 1) = 256 ^ l.length * 256 := Nat.pow_succ _ _
    simp only [nest, List.length_cons]; omega

theorem and_split (q m r s : Nat) (hr : r < 256) (hs : s < 256) : (r + 256 * q) &&& (s + 256 * m) = (r &&& s) + 256 * (q &&& m) := by
  have hq : (r + 256 * q) / 2 ^ 8 = q := by omega
  have hm : (s + 256 * m) / 2 ^ 8 = m := by omega
  have hr' : (r + 256 * q) % 2 ^ 8 = r := by omega
  have hs' : (s + 256 * m) % 2 ^ 8 = s := by omega
  have h1 : ((r + 256 * q) &&& (s + 256 * m)) % 2 ^ 8 = r &&& s := by rw [Nat.and_mod_two_pow, hr', hs']
  have h2 : ((r + 256 * q) &&& (s + 256 * m)) / 2 ^ 8 = q &&& m := by
    rw [← Nat.shiftRight_eq_div_pow, Nat.shiftRight_and_distrib, Nat.shiftRight_eq_div_pow, Nat.shiftRight_eq_div_pow, hq, hm]
  omega

/-- A byte, so many times. -/
def rep (c : Nat) : Nat → Nat
  | 0 => 0
  | n + 1 => c + 256 * rep c n

def st1 (b : Nat) : Nat := (b / 2 &&& 85) + (b &&& 85)
def st2 (b : Nat) : Nat := (b / 4 &&& 51) + (b &&& 51)
def st3 (b : Nat) : Nat := (b / 16 + b) &&& 15

theorem st1_bd : ∀ b, b < 256 → ∀ c, c < 2 → ((b / 2 + 128 * c) &&& 85) = (b / 2 &&& 85) ∧ st1 b ≤ 170 := by decide +kernel
theorem st2_bd : ∀ b, b < 256 → ∀ c, c < 4 → ((b / 4 + 64 * c) &&& 51) = (b / 4 &&& 51) ∧ st2 b ≤ 102 := by decide +kernel
theorem st_all : ∀ b, b < 256 → st1 b < 256 ∧ st2 (st1 b) ≤ 68 ∧ st2 (st1 b) % 16 ≤ 4 ∧ st2 (st1 b) / 16 ≤ 4 ∧ st3 (st2 (st1 b)) = onesTo b 8 := by decide +kernel

theorem stage1 : ∀ l : List Nat, (∀ b ∈ l, b < 256) → (nest l / 2 &&& rep 85 l.length) + (nest l &&& rep 85 l.length) = nest (l.map st1)
  | [], _ => by simp [nest, rep]
  | b :: l, h => by
    have ih := stage1 l (fun c hc => h c (List.mem_cons_of_mem _ hc))
    have hb := h b List.mem_cons_self
    have e : (b + 256 * nest l) / 2 = (b / 2 + 128 * (nest l % 2)) + 256 * (nest l / 2) := by omega
    simp only [nest, rep, List.length_cons, List.map_cons]
    rw [e, and_split _ _ _ _ (by omega) (by omega), and_split _ _ _ _ hb (by omega), ← ih, (st1_bd b hb _ (Nat.mod_lt _ (by omega))).1]
    simp only [st1]; omega

theorem stage2 : ∀ l : List Nat, (∀ b ∈ l, b < 256) → (nest l / 4 &&& rep 51 l.length) + (nest l &&& rep 51 l.length) = nest (l.map st2)
  | [], _ => by simp [nest, rep]
  | b :: l, h => by
    have ih := stage2 l (fun c hc => h c (List.mem_cons_of_mem _ hc))
    have hb := h b List.mem_cons_self
    have e : (b + 256 * nest l) / 4 = (b / 4 + 64 * (nest l % 4)) + 256 * (nest l / 4) := by omega
    simp only [nest, rep, List.length_cons, List.map_cons]
    rw [e, and_split _ _ _ _ (by omega) (by omega), and_split _ _ _ _ hb (by omega), ← ih, (st2_bd b hb _ (Nat.mod_lt _ (by omega))).1]
    simp only [st2]; omega

theorem and15 (x : Nat) : x &&& 15 = x % 16 := Nat.and_two_pow_sub_one_eq_mod x 4

theorem stage3 : ∀ l : List Nat, (∀ b ∈ l, b ≤ 68 ∧ b % 16 ≤ 4 ∧ b / 16 ≤ 4) → nest l % 16 ≤ 4 ∧ (nest l / 16 + nest l) &&& rep 15 l.length = nest (l.map st3)
  | [], _ => by simp [nest, rep]
  | b :: l, h => by
    have ih := stage3 l (fun c hc => h c (List.mem_cons_of_mem _ hc))
    have hb := h b List.mem_cons_self
    have e : (b + 256 * nest l) / 16 + (b + 256 * nest l) = (16 * (nest l % 16) + b / 16 + b) + 256 * (nest l / 16 + nest l) := by omega
    refine ⟨by simp only [nest]; omega, ?_⟩
    simp only [nest, rep, List.length_cons, List.map_cons]
    rw [e, and_split _ _ _ _ (by omega) (by omega), ih.2, and15]
    simp only [st3, and15]; omega

theorem onesTo_nest : ∀ l : List Nat, (∀ b ∈ l, b < 256) → onesTo (nest l) (8 * l.length) = (l.map (onesTo · 8)).sum
  | [], _ => rfl
  | b :: l, h => by
    have ih := onesTo_nest l (fun c hc => h c (List.mem_cons_of_mem _ hc))
    have hb := h b List.mem_cons_self
    rw [List.length_cons, show 8 * (l.length + 1) = 8 + 8 * l.length from by omega, onesTo_add]
    have e1 : (nest (b :: l)) / 2 ^ 8 = nest l := by simp only [nest]; omega
    have e2 : onesTo (nest (b :: l)) 8 = onesTo b 8 := by
      rw [← onesTo_mod _ 8 (k := 8) (Nat.le_refl _)]
      have : nest (b :: l) % 2 ^ 8 = b := by simp only [nest]; omega
      rw [this]
    rw [e1, e2, ih]; simp

theorem bytes8 (x : Nat) (hx : x < 18446744073709551616) : ∃ b0 b1 b2 b3 b4 b5 b6 b7, b0 < 256 ∧ b1 < 256 ∧ b2 < 256 ∧ b3 < 256 ∧ b4 < 256 ∧ b5 < 256 ∧ b6 < 256 ∧ b7 < 256 ∧ x = nest [b0, b1, b2, b3, b4, b5, b6, b7] := by
  refine ⟨x % 256, x / 256 % 256, x / 256 / 256 % 256, x / 256 / 256 / 256 % 256, x / 256 / 256 / 256 / 256 % 256, x / 256 / 256 / 256 / 256 / 256 % 256,
    x / 256 / 256 / 256 / 256 / 256 / 256 % 256, x / 256 / 256 / 256 / 256 / 256 / 256 / 256 % 256, ?_⟩
  simp only [nest]
  omega

/-- What math/bits.OnesCount64 reckons, step by step. -/
def pop1 (x : Nat) : Nat := (x / 2 &&& 6148914691236517205) + (x &&& 6148914691236517205)
def pop2 (x : Nat) : Nat := (x / 4 &&& 3689348814741910323) + (x &&& 3689348814741910323)
def pop3 (x : Nat) : Nat := (x / 16 + x) &&& 1085102592571150095

theorem rep85 : rep 85 8 = 6148914691236517205 := by decide +kernel
theorem rep51 : rep 51 8 = 3689348814741910323 := by decide +kernel
theorem rep15 : rep 15 8 = 1085102592571150095 := by decide +kernel
theorem pop1_nest (l : List Nat) (hl : l.length = 8) (h : ∀ b ∈ l, b < 256) : pop1 (nest l) = nest (l.map st1) := by
  have := stage1 l h; rw [hl, rep85] at this; exact this
theorem pop2_nest (l : List Nat) (hl : l.length = 8) (h : ∀ b ∈ l, b < 256) : pop2 (nest l) = nest (l.map st2) := by
  have := stage2 l h; rw [hl, rep51] at this; exact this
theorem pop3_nest (l : List Nat) (hl : l.length = 8) (h : ∀ b ∈ l, b ≤ 68 ∧ b % 16 ≤ 4 ∧ b / 16 ≤ 4) : pop3 (nest l) = nest (l.map st3) := by
  have := (stage3 l h).2; rw [hl, rep15] at this; exact this

theorem nest8_bd (l : List Nat) (hl : l.length = 8) (h : ∀ b ∈ l, b < 256) : nest l < 18446744073709551616 := by
  have h1 := nest_lt l h
  have h2 : (256 : Nat) ^ 8 = 18446744073709551616 := by decide
  rw [hl, h2] at h1
  exact h1
theorem nest_le_const (c : Nat) : ∀ l : List Nat, (∀ b ∈ l, b ≤ c) → nest l ≤ rep c l.length
  | [], _ => by simp [nest, rep]
  | b :: l, h => by
    have h1 := nest_le_const c l (fun x hx => h x (List.mem_cons_of_mem _ hx))
    have h2 := h b List.mem_cons_self
    simp only [nest, rep, List.length_cons]; omega
theorem nest8_102 (l : List Nat) (hl : l.length = 8) (h : ∀ b ∈ l, b ≤ 102) : nest l < 9223372036854775808 := by
  have h1 := nest_le_const 102 l h
  have h2 : rep 102 8 < 9223372036854775808 := by decide +kernel
  rw [hl] at h1
  omega
theorem nest8_8 (l : List Nat) (hl : l.length = 8) (h : ∀ b ∈ l, b ≤ 8) : nest l < 4611686018427387904 := by
  have h1 := nest_le_const 8 l h
  have h2 : rep 8 8 < 4611686018427387904 := by decide +kernel
  rw [hl] at h1
  omega
theorem nest_div (b : Nat) (l : List Nat) (h : b < 256) : nest (b :: l) / 256 = nest l := by simp only [nest]; omega
theorem nest_add : ∀ l m : List Nat, nest l + nest m = nest ((l.zipWith (· + ·) m) ++ l.drop m.length ++ m.drop l.length)
  | [], m => by simp [nest]
  | l, [] => by simp [nest]
  | a :: l, b :: m => by
    have := nest_add l m
    simp only [List.zipWith_cons_cons, List.length_cons, List.drop_succ_cons, List.cons_append, nest]
    omega
theorem nest8_fold (a b c d e f g h : Nat) (ha : a ≤ 8) (hb : b ≤ 8) (hc : c ≤ 8) (hd : d ≤ 8) (he : e ≤ 8) (hf : f ≤ 8) (hg : g ≤ 8) (hh : h ≤ 8) :
    (let y := nest [a, b, c, d, e, f, g, h]; let y1 := y + y / 256; let y2 := y1 + y1 / 65536; (y2 + y2 / 4294967296) % 128 = a + (b + (c + (d + (e + (f + (g + h))))))) := by
  have d1 : nest [a, b, c, d, e, f, g, h] / 256 = nest [b, c, d, e, f, g, h] := nest_div _ _ (by omega)
  have e1 : nest [a, b, c, d, e, f, g, h] + nest [b, c, d, e, f, g, h] = nest [a + b, b + c, c + d, d + e, e + f, f + g, g + h, h] := nest_add _ _
  have d2 : nest [a + b, b + c, c + d, d + e, e + f, f + g, g + h, h] / 65536 = nest [c + d, d + e, e + f, f + g, g + h, h] := by
    rw [show 65536 = 256 * 256 from rfl, ← Nat.div_div_eq_div_mul, nest_div _ _ (by omega), nest_div _ _ (by omega)]
  have e2 : nest [a + b, b + c, c + d, d + e, e + f, f + g, g + h, h] + nest [c + d, d + e, e + f, f + g, g + h, h] = nest [a + b + (c + d), b + c + (d + e), c + d + (e + f), d + e + (f + g), e + f + (g + h), f + g + h, g + h, h] := nest_add _ _
  have d3 : nest [a + b + (c + d), b + c + (d + e), c + d + (e + f), d + e + (f + g), e + f + (g + h), f + g + h, g + h, h] / 4294967296 = nest [e + f + (g + h), f + g + h, g + h, h] := by
    rw [show 4294967296 = 256 * 256 * 256 * 256 from rfl, ← Nat.div_div_eq_div_mul, ← Nat.div_div_eq_div_mul, ← Nat.div_div_eq_div_mul, nest_div _ _ (by omega), nest_div _ _ (by omega), nest_div _ _ (by omega), nest_div _ _ (by omega)]
  intro y y1 y2
  have hy1 : y1 = nest [a + b, b + c, c + d, d + e, e + f, f + g, g + h, h] := by show nest _ + nest _ / 256 = _; rw [d1, e1]
  have hy2 : y2 = nest [a + b + (c + d), b + c + (d + e), c + d + (e + f), d + e + (f + g), e + f + (g + h), f + g + h, g + h, h] := by show y1 + y1 / 65536 = _; rw [hy1, d2, e2]
  rw [hy2, d3]
  generalize ht : nest [b + c + (d + e), c + d + (e + f), d + e + (f + g), e + f + (g + h), f + g + h, g + h, h] = t
  generalize hu : nest [f + g + h, g + h, h] = u
  have h1 : nest [a + b + (c + d), b + c + (d + e), c + d + (e + f), d + e + (f + g), e + f + (g + h), f + g + h, g + h, h] = (a + b + (c + d)) + 256 * t := by rw [← ht]; rfl
  have h2 : nest [e + f + (g + h), f + g + h, g + h, h] = (e + f + (g + h)) + 256 * u := by rw [← hu]; rfl
  rw [h1, h2]
  omega

set_option maxHeartbeats 1000000 in
theorem pop_main (x : Nat) (hx : x < 18446744073709551616) :
    pop1 x < 18446744073709551616 ∧ pop2 (pop1 x) < 9223372036854775808 ∧ pop3 (pop2 (pop1 x)) < 4611686018427387904 ∧
    (let y := pop3 (pop2 (pop1 x)); let y1 := y + y / 256; let y2 := y1 + y1 / 65536; (y2 + y2 / 4294967296) % 128 = onesTo x 64) := by
  obtain ⟨b0, b1, b2, b3, b4, b5, b6, b7, h0, h1, h2, h3, h4, h5, h6, h7, rfl⟩ := bytes8 x hx
  have hl : ∀ b ∈ [b0, b1, b2, b3, b4, b5, b6, b7], b < 256 := by
    intro b hb
    simp only [List.mem_cons, List.not_mem_nil, or_false] at hb
    omega
  have a0 := st_all b0 h0
  have a1 := st_all b1 h1
  have a2 := st_all b2 h2
  have a3 := st_all b3 h3
  have a4 := st_all b4 h4
  have a5 := st_all b5 h5
  have a6 := st_all b6 h6
  have a7 := st_all b7 h7
  have e1 : pop1 (nest [b0, b1, b2, b3, b4, b5, b6, b7]) = nest [st1 b0, st1 b1, st1 b2, st1 b3, st1 b4, st1 b5, st1 b6, st1 b7] := pop1_nest _ rfl hl
  have hl1 : ∀ b ∈ [st1 b0, st1 b1, st1 b2, st1 b3, st1 b4, st1 b5, st1 b6, st1 b7], b < 256 := by
    intro b hb
    simp only [List.mem_cons, List.not_mem_nil, or_false] at hb
    omega
  have e2 : pop2 (nest [st1 b0, st1 b1, st1 b2, st1 b3, st1 b4, st1 b5, st1 b6, st1 b7]) = nest [st2 (st1 b0), st2 (st1 b1), st2 (st1 b2), st2 (st1 b3), st2 (st1 b4), st2 (st1 b5), st2 (st1 b6), st2 (st1 b7)] := pop2_nest _ rfl hl1
  have hl2 : ∀ b ∈ [st2 (st1 b0), st2 (st1 b1), st2 (st1 b2), st2 (st1 b3), st2 (st1 b4), st2 (st1 b5), st2 (st1 b6), st2 (st1 b7)], b ≤ 68 ∧ b % 16 ≤ 4 ∧ b / 16 ≤ 4 := by
    intro b hb
    simp only [List.mem_cons, List.not_mem_nil, or_false] at hb
    rcases hb with rfl | rfl | rfl | rfl | rfl | rfl | rfl | rfl <;> omega
  have e3 : pop3 (nest [st2 (st1 b0), st2 (st1 b1), st2 (st1 b2), st2 (st1 b3), st2 (st1 b4), st2 (st1 b5), st2 (st1 b6), st2 (st1 b7)]) = nest [st3 (st2 (st1 b0)), st3 (st2 (st1 b1)), st3 (st2 (st1 b2)), st3 (st2 (st1 b3)), st3 (st2 (st1 b4)), st3 (st2 (st1 b5)), st3 (st2 (st1 b6)), st3 (st2 (st1 b7))] := pop3_nest _ rfl hl2
  have e4 := onesTo_nest _ hl
  simp only [List.length_cons, List.length_nil, List.map_cons, List.map_nil, List.sum_cons, List.sum_nil, Nat.reduceAdd, Nat.reduceMul] at e4
  have c0 := onesTo_le b0 8
  have c1 := onesTo_le b1 8
  have c2 := onesTo_le b2 8
  have c3 := onesTo_le b3 8
  have c4 := onesTo_le b4 8
  have c5 := onesTo_le b5 8
  have c6 := onesTo_le b6 8
  have c7 := onesTo_le b7 8
  rw [e1, e2, e3, e4, a0.2.2.2.2, a1.2.2.2.2, a2.2.2.2.2, a3.2.2.2.2, a4.2.2.2.2, a5.2.2.2.2, a6.2.2.2.2, a7.2.2.2.2]
  refine ⟨nest8_bd _ rfl hl1, nest8_102 _ rfl ?_, nest8_8 _ rfl ?_, nest8_fold _ _ _ _ _ _ _ _ c0 c1 c2 c3 c4 c5 c6 c7⟩
  · intro b hb
    exact Nat.le_trans (hl2 b hb).1 (by omega)
  · intro b hb
    simp only [List.mem_cons, List.not_mem_nil, or_false] at hb
    rcases hb with rfl | rfl | rfl | rfl | rfl | rfl | rfl | rfl <;> assumption

end L
end Go.Proofs.YtgpbpgpolpakjaaGreatDoor

/- Plain laws on words, in the walk's spelling: integers of Go against numbers and their bits. -/



set_option linter.unusedVariables false
set_option linter.unusedSimpArgs false
namespace Go.Proofs.YtgpbpgpolpakjaaGreatDoor
namespace L

theorem hid {p : Prop} (h : p) : Go.RowKit.Hid p := h


/-- A number of first bits that there are. -/
def clampN (n : Int) : Nat := (min (max n 0) 64).toNat

theorem wrap_and_sum (x d c : Nat) (hx : x < 18446744073709551616) (hc : c < 18446744073709551616) (h : (x / d &&& c) + (x &&& c) < 18446744073709551616) :
    IntKind.u64.wrap (bits BinOp.and IntKind.u64 ((x : Int) / (d : Int)) (c : Int) + bits BinOp.and IntKind.u64 (x : Int) (c : Int)) = (((x / d &&& c) + (x &&& c) : Nat) : Int) := by
  have e : (x : Int) / (d : Int) = ((x / d : Nat) : Int) := rfl
  rw [e, u64_and_nat _ _ (Nat.lt_of_le_of_lt (Nat.div_le_self x d) hx) hc, u64_and_nat _ _ hx hc, IntKind.wrap_u64]
  omega

theorem u_and127 (y : Nat) (hy : y < 9223372036854775808) : bits BinOp.and IntKind.i64 (y : Int) 127 = ((y % 128 : Nat) : Int) := by
  rw [show y % 128 = y &&& 127 from (Nat.and_two_pow_sub_one_eq_mod y 7).symm]
  have h : y &&& 127 < 2 ^ 7 := Nat.and_lt_two_pow _ (by omega)
  show IntKind.i64.wrap ((BitVec.ofInt 64 (y : Int) &&& BitVec.ofInt 64 (127 : Int)).toNat : Int) = _
  rw [BitVec.toNat_and, BitVec.ofInt_natCast, BitVec.toNat_ofNat, Nat.mod_eq_of_lt (by omega), show (BitVec.ofInt 64 (127 : Int)).toNat = 127 from by decide, IntKind.wrap_i64]
  omega

theorem clampN_le (n : Int) : clampN n ≤ 64 := by unfold clampN; omega
theorem clampN_of {n : Int} (h : 0 ≤ n) (h' : n ≤ 64) : clampN n = n.toNat := by unfold clampN; omega
theorem clampN_nat {n : Nat} (h' : n ≤ 64) : clampN (n : Int) = n := by unfold clampN; omega
theorem clampN_clampN (n : Int) : clampN (clampN n : Nat) = clampN n := clampN_nat (clampN_le n)

theorem pow_lt64 {k : Nat} (h : k < 64) : 2 ^ k < 18446744073709551616 := by
  have : (2 : Nat) ^ k < 2 ^ 64 := Nat.pow_lt_pow_right (by omega) h
  have e : (2 : Nat) ^ 64 = 18446744073709551616 := by decide
  omega
theorem pow_le64 {k : Nat} (h : k ≤ 64) : 2 ^ k ≤ 18446744073709551616 := by
  have : (2 : Nat) ^ k ≤ 2 ^ 64 := Nat.pow_le_pow_right (by omega) h
  have e : (2 : Nat) ^ 64 = 18446744073709551616 := by decide
  omega
theorem mask_lt (n : Int) : 2 ^ clampN n - 1 < 18446744073709551616 := by
  have := pow_le64 (clampN_le n); have := Nat.two_pow_pos (clampN n); omega

theorem mask_lo (k : Int) (hk : 0 ≤ k) (h : k < 64) : IntKind.u64.wrap (IntKind.u64.wrap (2 ^ k.toNat) - 1) = ((2 ^ clampN k - 1 : Nat) : Int) := by
  rw [clampN_of hk (by omega), IntKind.wrap_u64, IntKind.wrap_u64]
  have h1 : k.toNat < 64 := by omega
  have h2 := pow_lt64 h1
  have h3 := Nat.two_pow_pos k.toNat
  have e : ((2 : Int) ^ k.toNat) = ((2 ^ k.toNat : Nat) : Int) := by simp
  rw [e]
  omega
theorem mask_hi (k : Int) (h : 64 ≤ k) : (18446744073709551615 : Int) = ((2 ^ clampN k - 1 : Nat) : Int) := by
  have : clampN k = 64 := by unfold clampN; omega
  rw [this]; decide

theorem ones_and (x : Nat) (n : Int) (hx : x < 18446744073709551616) :
    bits BinOp.and IntKind.u64 (x : Int) ((2 ^ clampN (clampN n : Nat) - 1 : Nat) : Int) = ((x % 2 ^ clampN n : Nat) : Int) ∧ x % 2 ^ clampN n < 18446744073709551616 ∧ onesTo (x % 2 ^ clampN n) 64 = onesTo x (clampN n) := by
  rw [clampN_clampN, ← Nat.and_two_pow_sub_one_eq_mod]
  exact ⟨u64_and_nat _ _ hx (mask_lt n), Nat.lt_of_le_of_lt Nat.and_le_left hx, onesTo_mask _ _ _ (clampN_le n)⟩

/-- The number that some bits of a word make (word.Field). -/
def fieldN (x : Nat) (p n : Int) : Nat :=
  if n < 1 ∨ 64 ≤ p ∨ p ≤ -64 then 0
  else if p < 0 then (x * 2 ^ (-p).toNat % 18446744073709551616) % 2 ^ clampN n
  else (x / 2 ^ p.toNat) % 2 ^ clampN n

theorem field_neg (x : Nat) (p n : Int) (hx : x < 18446744073709551616) (h : ¬ (n < 1 ∨ 64 ≤ p ∨ p ≤ -64)) (hp : p < 0) :
    bits BinOp.and IntKind.u64 (IntKind.u64.wrap ((x : Int) * 2 ^ (-p).toNat)) ((2 ^ clampN n - 1 : Nat) : Int) = ((fieldN x p n : Nat) : Int) := by
  have e : IntKind.u64.wrap ((x : Int) * 2 ^ (-p).toNat) = ((x * 2 ^ (-p).toNat % 18446744073709551616 : Nat) : Int) := by
    rw [IntKind.wrap_u64]; simp
  rw [e, u64_and_nat _ _ (Nat.mod_lt _ (by omega)) (mask_lt n), Nat.and_two_pow_sub_one_eq_mod]
  unfold fieldN; rw [if_neg h, if_pos hp]
theorem field_pos (x : Nat) (p n : Int) (hx : x < 18446744073709551616) (h : ¬ (n < 1 ∨ 64 ≤ p ∨ p ≤ -64)) (hp : 0 ≤ p) :
    bits BinOp.and IntKind.u64 ((x : Int) / 2 ^ p.toNat) ((2 ^ clampN n - 1 : Nat) : Int) = ((fieldN x p n : Nat) : Int) := by
  have e : (x : Int) / 2 ^ p.toNat = ((x / 2 ^ p.toNat : Nat) : Int) := by simp
  rw [e, u64_and_nat _ _ (Nat.lt_of_le_of_lt (Nat.div_le_self _ _) hx) (mask_lt n), Nat.and_two_pow_sub_one_eq_mod]
  unfold fieldN; rw [if_neg h, if_neg (by omega)]

/-- A word's bit at a place; false where there is none. -/
def ibit (x : Nat) (i : Int) : Bool := decide (0 ≤ i) && decide (i < 64) && x.testBit i.toNat

theorem ibit_nat (x : Nat) (k : Nat) (h : k < 64) : ibit x k = x.testBit k := by
  unfold ibit
  have h1 : decide ((0 : Int) ≤ (k : Int)) = true := by simp
  have h2 : decide ((k : Int) < 64) = true := by simp; omega
  rw [h1, h2]; simp

theorem bit_and1 (x : Nat) (i : Int) (hx : x < 18446744073709551616) (h : 0 ≤ i) (h2 : i < 64) :
    (bits BinOp.and IntKind.u64 ((x : Int) / 2 ^ i.toNat) 1 == 1) = ibit x i := by
  have e : (x : Int) / 2 ^ i.toNat = ((x / 2 ^ i.toNat : Nat) : Int) := by simp
  rw [e]
  have e2 := u64_and_nat (x / 2 ^ i.toNat) 1 (Nat.lt_of_le_of_lt (Nat.div_le_self _ _) hx) (by omega)
  have e3 : bits BinOp.and IntKind.u64 ((x / 2 ^ i.toNat : Nat) : Int) 1 = ((x / 2 ^ i.toNat % 2 : Nat) : Int) := by
    have := e2; rw [Nat.and_one_is_mod] at this; exact this
  rw [e3]
  unfold ibit
  rw [Nat.testBit_eq_decide_div_mod_eq]
  have h1 : decide ((0 : Int) ≤ i) = true := by simp; omega
  have h3 : decide (i < 64) = true := by simp; omega
  rw [h1, h3]
  rcases Nat.mod_two_eq_zero_or_one (x / 2 ^ i.toNat) with h0 | h0 <;> rw [h0] <;> rfl

/-- How many bits a number takes. -/
def need (x : Nat) : Nat := Lib.bitLen x

theorem pow_mono_of {a b : Nat} (h : (2 : Nat) ^ a < 2 ^ b) : a < b := (Nat.pow_lt_pow_iff_right (by omega)).1 h

theorem need_spec (x : Nat) (hx : x < 18446744073709551616) : x < 2 ^ need x ∧ (need x ≠ 0 → 2 ^ (need x - 1) ≤ x) ∧ need x ≤ 64 := by
  unfold need
  have h64 : (18446744073709551616 : Nat) = 2 ^ 64 := by decide
  by_cases h0 : x = 0
  · subst h0; refine ⟨by decide, ?_, by decide⟩
    intro h; exact absurd (show Lib.bitLen 0 = 0 by decide) h
  · have h := Lib.bitLenAux_bounds 64 x (by rw [← h64]; exact hx) h0
    have h1 : Lib.bitLen x = Lib.bitLenAux 64 x := rfl
    rw [h1]
    refine ⟨h.2.2, fun _ => h.2.1, ?_⟩
    have : (2 : Nat) ^ (Lib.bitLenAux 64 x - 1) < 2 ^ 64 := Nat.lt_of_le_of_lt h.2.1 (by rw [← h64]; exact hx)
    have := pow_mono_of this
    omega

theorem need_unique {x a b : Nat} (h1 : x < 2 ^ a) (h2 : a ≠ 0 → 2 ^ (a - 1) ≤ x) (h3 : x < 2 ^ b) (h4 : b ≠ 0 → 2 ^ (b - 1) ≤ x) : a = b := by
  rcases Nat.lt_trichotomy a b with h | h | h
  · have h5 := h4 (by omega)
    have h6 : (2 : Nat) ^ a ≤ 2 ^ (b - 1) := Nat.pow_le_pow_right (by omega) (by omega)
    omega
  · exact h
  · have h5 := h2 (by omega)
    have h6 : (2 : Nat) ^ b ≤ 2 ^ (a - 1) := Nat.pow_le_pow_right (by omega) (by omega)
    omega

/-- A number takes at most n bits just if it is below 2^n. -/
theorem need_le_iff (x n : Nat) (hx : x < 18446744073709551616) : need x ≤ n ↔ x < 2 ^ n := by
  have k := need_spec x hx
  constructor
  · intro h; exact Nat.lt_of_lt_of_le k.1 (Nat.pow_le_pow_right (by omega) h)
  · intro h
    by_cases h0 : need x = 0
    · omega
    · have := Nat.lt_of_le_of_lt (k.2.1 h0) h
      have := pow_mono_of this
      omega

end L
end Go.Proofs.YtgpbpgpolpakjaaGreatDoor

/- Plain laws on rows of bits: a list of bits, its words of 64, and what a Put does to them. -/

set_option linter.unusedVariables false
set_option linter.unusedSimpArgs false
namespace Go.Proofs.YtgpbpgpolpakjaaGreatDoor
namespace L

def bitAt (bs : List Bool) (i : Nat) : Bool := bs[i]?.getD false

/-- The number that bits make, the least first. -/
def num : List Bool → Nat
  | [] => 0
  | b :: l => b.toNat + 2 * num l

theorem num_lt : ∀ l : List Bool, num l < 2 ^ l.length
  | [] => by simp [num]
  | b :: l => by
    have h1 := num_lt l
    have h2 : 2 ^ (l.length + 1) = 2 ^ l.length * 2 := Nat.pow_succ _ _
    have h3 := Bool.toNat_le b
    simp only [num, List.length_cons]; omega

theorem num_testBit : ∀ (l : List Bool) (i : Nat), (num l).testBit i = bitAt l i
  | [], i => by simp [num, bitAt]
  | b :: l, 0 => by
    have : (num (b :: l)) % 2 = b.toNat := by simp only [num]; have := Bool.toNat_lt b; omega
    rw [Nat.testBit_zero, this]; cases b <;> rfl
  | b :: l, i + 1 => by
    have : (num (b :: l)) / 2 = num l := by simp only [num]; have := Bool.toNat_lt b; omega
    rw [Nat.testBit_succ, this, num_testBit l i]; simp [bitAt]

def nwords (n : Nat) : Nat := (n + 63) / 64
def wordAt (bs : List Bool) (i : Nat) : Nat := num ((bs.drop (64 * i)).take 64)
def words (bs : List Bool) : List Nat := (List.range (nwords bs.length)).map (wordAt bs)
def bitsOf (v n : Nat) : List Bool := (List.range n).map v.testBit

theorem bitAt_drop_take (bs : List Bool) (k n i : Nat) : bitAt ((bs.drop k).take n) i = (decide (i < n) && bitAt bs (k + i)) := by
  unfold bitAt
  rw [List.getElem?_take]
  by_cases h : i < n
  · rw [if_pos h, List.getElem?_drop]; simp [h]
  · rw [if_neg h]; simp [h]

theorem wordAt_testBit (bs : List Bool) (i j : Nat) : (wordAt bs i).testBit j = (decide (j < 64) && bitAt bs (64 * i + j)) := by
  unfold wordAt; rw [num_testBit, bitAt_drop_take]

theorem wordAt_lt (bs : List Bool) (i : Nat) : wordAt bs i < 18446744073709551616 := by
  have h1 := num_lt ((bs.drop (64 * i)).take 64)
  have h2 : ((bs.drop (64 * i)).take 64).length ≤ 64 := by rw [List.length_take]; omega
  have h3 := pow_le64 h2
  unfold wordAt; omega

theorem words_length (bs : List Bool) : (words bs).length = nwords bs.length := by simp [words]
theorem words_get (bs : List Bool) {i : Nat} (h : i < nwords bs.length) : (words bs)[i]? = some (wordAt bs i) := by
  simp [words, List.getElem?_range h]
theorem bitsOf_length (v n : Nat) : (bitsOf v n).length = n := by simp [bitsOf]
theorem bitAt_bitsOf (v n i : Nat) : bitAt (bitsOf v n) i = (decide (i < n) && v.testBit i) := by
  unfold bitAt bitsOf
  by_cases h : i < n
  · simp [List.getElem?_range h, h]
  · simp [List.getElem?_eq_none (show (List.range n).length ≤ i by simp; omega), h]
theorem bitAt_append (a b : List Bool) (i : Nat) : bitAt (a ++ b) i = if i < a.length then bitAt a i else bitAt b (i - a.length) := by
  unfold bitAt
  by_cases h : i < a.length
  · rw [if_pos h, List.getElem?_append_left h]
  · rw [if_neg h, List.getElem?_append_right (by omega)]
theorem bitAt_ge (a : List Bool) (i : Nat) (h : a.length ≤ i) : bitAt a i = false := by
  unfold bitAt; rw [List.getElem?_eq_none h]; rfl
theorem bitAt_get (a : List Bool) (i : Nat) (h : i < a.length) : a[i]? = some (bitAt a i) := by
  unfold bitAt; rw [List.getElem?_eq_getElem h]; rfl
theorem ext_bits {a b : List Bool} (hl : a.length = b.length) (h : ∀ i, i < a.length → bitAt a i = bitAt b i) : a = b := by
  apply List.ext_getElem? ; intro i
  rcases Nat.lt_or_ge i a.length with h1 | h1
  · rw [bitAt_get a i h1, bitAt_get b i (by omega), h i h1]
  · rw [List.getElem?_eq_none h1, List.getElem?_eq_none (by omega)]

theorem testBit_lt {v n j : Nat} (h : v < 2 ^ n) (hj : n ≤ j) : v.testBit j = false :=
  Nat.testBit_lt_two_pow (Nat.lt_of_lt_of_le h (Nat.pow_le_pow_right (by omega) hj))

theorem wordAt_append (bs : List Bool) (v n i j : Nat) (hv : v < 2 ^ n) : (wordAt (bs ++ bitsOf v n) i).testBit j = (decide (j < 64) && if 64 * i + j < bs.length then bitAt bs (64 * i + j) else v.testBit (64 * i + j - bs.length)) := by
  rw [wordAt_testBit, bitAt_append, bitAt_bitsOf]
  by_cases h : 64 * i + j < bs.length
  · simp only [h, if_true]
  · simp only [h, if_false]
    by_cases h2 : 64 * i + j - bs.length < n
    · simp [h2]
    · have h3 := testBit_lt (j := 64 * i + j - bs.length) hv (by omega)
      simp [h2, h3]

theorem wordAt_keep (bs cs : List Bool) (i : Nat) (h : 64 * (i + 1) ≤ bs.length) : wordAt (bs ++ cs) i = wordAt bs i := by
  apply Nat.eq_of_testBit_eq; intro j
  rw [wordAt_testBit, wordAt_testBit]
  by_cases hj : j < 64
  · rw [bitAt_append, if_pos (by omega)]
  · simp [hj]

/-- A Put at a word's beginning. -/
theorem words_put_new (bs : List Bool) (v n : Nat) (hb : bs.length % 64 = 0) (h0 : 0 < n) (hn : n ≤ 64) (hv : v < 2 ^ n) : words (bs ++ bitsOf v n) = words bs ++ [v] := by
  have hq : nwords bs.length = bs.length / 64 := by unfold nwords; omega
  have hq2 : nwords (bs ++ bitsOf v n).length = bs.length / 64 + 1 := by rw [List.length_append, bitsOf_length]; unfold nwords; omega
  apply List.ext_getElem?; intro i
  rcases Nat.lt_trichotomy i (bs.length / 64) with h | h | h
  · rw [words_get _ (by omega), List.getElem?_append_left (by rw [words_length]; omega), words_get _ (by omega), wordAt_keep _ _ _ (by omega)]
  · rw [words_get _ (by omega), List.getElem?_append_right (by rw [words_length]; omega), words_length, hq, h]
    simp only [Nat.sub_self, List.getElem?_cons_zero, Option.some.injEq]
    apply Nat.eq_of_testBit_eq; intro j
    rw [wordAt_append _ _ _ _ _ hv, if_neg (by omega)]
    have : 64 * (bs.length / 64) + j - bs.length = j := by omega
    rw [this]
    by_cases hj : j < 64
    · simp [hj]
    · have h3 := testBit_lt (j := j) hv (by omega)
      simp [hj, h3]
  · rw [List.getElem?_eq_none (by rw [words_length]; omega), List.getElem?_eq_none (by rw [List.length_append, words_length]; simp; omega)]

/-- The last word's new value, and the word behind it, if there is one. -/
def putLast (bs : List Bool) (v : Nat) : Nat := wordAt bs (bs.length / 64) ||| (v * 2 ^ (bs.length % 64) % 18446744073709551616)

theorem putLast_eq (bs : List Bool) (v n : Nat) (hn : n ≤ 64) (hv : v < 2 ^ n) : wordAt (bs ++ bitsOf v n) (bs.length / 64) = putLast bs v := by
  unfold putLast
  apply Nat.eq_of_testBit_eq; intro j
  rw [wordAt_append _ _ _ _ _ hv, Nat.testBit_or, wordAt_testBit, show (18446744073709551616 : Nat) = 2 ^ 64 from by decide, Nat.testBit_mod_two_pow, Nat.testBit_mul_two_pow]
  by_cases hj : j < 64
  · by_cases h : 64 * (bs.length / 64) + j < bs.length
    · have h1 : ¬ bs.length % 64 ≤ j := by omega
      simp [hj, h, h1]
    · have h1 : bs.length % 64 ≤ j := by omega
      have h2 : 64 * (bs.length / 64) + j - bs.length = j - bs.length % 64 := by omega
      simp [hj, h, h1, h2, bitAt_ge bs _ (show bs.length ≤ 64 * (bs.length / 64) + j by omega)]
  · simp [hj]

/-- A Put within a word that holds it. -/
theorem words_put_in (bs : List Bool) (v n : Nat) (hb : bs.length % 64 ≠ 0) (hn : bs.length % 64 + n ≤ 64) (hv : v < 2 ^ n) :
    words (bs ++ bitsOf v n) = (words bs).set (bs.length / 64) (putLast bs v) := by
  have hq : nwords bs.length = bs.length / 64 + 1 := by unfold nwords; omega
  have hq2 : nwords (bs ++ bitsOf v n).length = bs.length / 64 + 1 := by rw [List.length_append, bitsOf_length]; unfold nwords; omega
  apply List.ext_getElem?; intro i
  rw [List.getElem?_set]
  rcases Nat.lt_trichotomy i (bs.length / 64) with h | h | h
  · rw [if_neg (by omega), words_get _ (by omega), words_get _ (by omega), wordAt_keep _ _ _ (by omega)]
  · subst h
    rw [if_pos rfl, if_pos (by rw [words_length]; omega), words_get _ (by omega), putLast_eq _ _ _ (by omega) hv]
  · rw [if_neg (by omega), List.getElem?_eq_none (by rw [words_length]; omega), List.getElem?_eq_none (by rw [words_length]; omega)]

/-- A Put over a word's end. -/
theorem words_put_over (bs : List Bool) (v n : Nat) (hb : bs.length % 64 ≠ 0) (hn : 64 < bs.length % 64 + n) (hn' : n ≤ 64) (hv : v < 2 ^ n) :
    words (bs ++ bitsOf v n) = (words bs).set (bs.length / 64) (putLast bs v) ++ [v / 2 ^ (64 - bs.length % 64)] := by
  have hq : nwords bs.length = bs.length / 64 + 1 := by unfold nwords; omega
  have hq2 : nwords (bs ++ bitsOf v n).length = bs.length / 64 + 2 := by rw [List.length_append, bitsOf_length]; unfold nwords; omega
  have hl : ((words bs).set (bs.length / 64) (putLast bs v)).length = bs.length / 64 + 1 := by rw [List.length_set, words_length, hq]
  apply List.ext_getElem?; intro i
  rcases Nat.lt_trichotomy i (bs.length / 64 + 1) with h | h | h
  · rw [List.getElem?_append_left (by omega), List.getElem?_set]
    rcases Nat.lt_or_ge i (bs.length / 64) with h1 | h1
    · rw [if_neg (by omega), words_get _ (by omega), words_get _ (by omega), wordAt_keep _ _ _ (by omega)]
    · have : i = bs.length / 64 := by omega
      subst this
      rw [if_pos rfl, if_pos (by rw [words_length]; omega), words_get _ (by omega), putLast_eq _ _ _ hn' hv]
  · rw [List.getElem?_append_right (by omega), words_get _ (by omega), hl, h]
    simp only [Nat.sub_self, List.getElem?_cons_zero, Option.some.injEq]
    apply Nat.eq_of_testBit_eq; intro j
    rw [wordAt_append _ _ _ _ _ hv, if_neg (by omega), Nat.testBit_div_two_pow]
    have : 64 * (bs.length / 64 + 1) + j - bs.length = j + (64 - bs.length % 64) := by omega
    rw [this]
    by_cases hj : j < 64
    · simp [hj]
    · have h3 := testBit_lt (j := j + (64 - bs.length % 64)) hv (by omega)
      simp [hj, h3]
  · rw [List.getElem?_eq_none (by rw [words_length]; omega), List.getElem?_eq_none (by rw [List.length_append, hl]; simp; omega)]

end L
end Go.Proofs.YtgpbpgpolpakjaaGreatDoor

/- Plain laws: the number of some bits of a row, out of its words; bytes of numbers. -/


set_option linter.unusedVariables false
set_option linter.unusedSimpArgs false
namespace Go.Proofs.YtgpbpgpolpakjaaGreatDoor
namespace L

/-- The number of n bits from a place on. -/
def fld (bs : List Bool) (p n : Nat) : Nat := num ((bs.drop p).take n)
theorem fld_testBit (bs : List Bool) (p n j : Nat) : (fld bs p n).testBit j = (decide (j < n) && bitAt bs (p + j)) := by unfold fld; rw [num_testBit, bitAt_drop_take]
theorem fld_lt (bs : List Bool) (p n : Nat) : fld bs p n < 2 ^ n := by
  have h1 := num_lt ((bs.drop p).take n)
  have h2 : ((bs.drop p).take n).length ≤ n := by rw [List.length_take]; omega
  have h3 : (2 : Nat) ^ ((bs.drop p).take n).length ≤ 2 ^ n := Nat.pow_le_pow_right (by omega) h2
  unfold fld; omega
theorem fld_lt64 (bs : List Bool) (p n : Nat) (h : n ≤ 64) : fld bs p n < 18446744073709551616 := Nat.lt_of_lt_of_le (fld_lt bs p n) (pow_le64 h)
theorem fld_zero (bs : List Bool) (p : Nat) : fld bs p 0 = 0 := by simp [fld, num]
theorem wordAt_eq_fld (bs : List Bool) (i : Nat) : wordAt bs i = fld bs (64 * i) 64 := rfl

/-- One bit more. -/
theorem fld_succ (bs : List Bool) (p n : Nat) : fld bs p (n + 1) = if bitAt bs (p + n) then fld bs p n ||| 2 ^ n else fld bs p n := by
  apply Nat.eq_of_testBit_eq; intro j
  rw [fld_testBit]
  cases hb : bitAt bs (p + n)
  · simp only [Bool.false_eq_true, if_false, fld_testBit]
    rcases Nat.lt_trichotomy j n with h | h | h
    · have h1 : j < n + 1 := by omega
      simp [h, h1]
    · subst h; simp [hb]
    · have h1 : ¬ j < n + 1 := by omega
      have h2 : ¬ j < n := by omega
      simp [h1, h2]
  · simp only [if_true, Nat.testBit_or, fld_testBit, Nat.testBit_two_pow]
    rcases Nat.lt_trichotomy j n with h | h | h
    · have h1 : j < n + 1 := by omega
      have h2 : ¬ n = j := by omega
      simp [h, h1, h2]
    · subst h; simp [hb]
    · have h1 : ¬ j < n + 1 := by omega
      have h2 : ¬ j < n := by omega
      have h3 : ¬ n = j := by omega
      simp [h1, h2, h3]

theorem fieldN_testBit (x : Nat) (p : Nat) (n : Nat) (hp : p < 64) (hn : 1 ≤ n) (hn' : n ≤ 64) (j : Nat) : (fieldN x (p : Nat) (n : Nat)).testBit j = (decide (j < n) && x.testBit (p + j)) := by
  unfold fieldN
  rw [if_neg (by omega), if_neg (by omega), clampN_nat hn', Nat.testBit_mod_two_pow, Int.toNat_natCast, Nat.testBit_div_two_pow, Nat.add_comm j p]

theorem fieldN_lt (x : Nat) (p n : Int) (hx : x < 18446744073709551616) : fieldN x p n < 18446744073709551616 := by
  unfold fieldN
  split
  · omega
  · split
    · exact Nat.lt_of_lt_of_le (Nat.mod_lt _ (Nat.two_pow_pos _)) (pow_le64 (clampN_le n))
    · exact Nat.lt_of_lt_of_le (Nat.mod_lt _ (Nat.two_pow_pos _)) (pow_le64 (clampN_le n))

/-- Some bits within one word. -/
theorem field_in (bs : List Bool) (p n : Nat) (hn : 1 ≤ n) (h : p % 64 + n ≤ 64) : fieldN (wordAt bs (p / 64)) ((p % 64 : Nat) : Int) (n : Nat) = fld bs p n := by
  apply Nat.eq_of_testBit_eq; intro j
  rw [fieldN_testBit _ _ _ (by omega) hn (by omega), fld_testBit, wordAt_testBit]
  by_cases hj : j < n
  · have h1 : p % 64 + j < 64 := by omega
    have h2 : 64 * (p / 64) + (p % 64 + j) = p + j := by omega
    simp [hj, h1, h2]
  · simp [hj]
/-- .. over a word's end. -/
theorem field_over (bs : List Bool) (p n : Nat) (hn : n ≤ 64) (h : 64 < p % 64 + n) :
    fieldN (wordAt bs (p / 64)) ((p % 64 : Nat) : Int) (n : Nat) ||| (fieldN (wordAt bs (p / 64 + 1)) ((0 : Nat) : Int) ((p % 64 + n - 64 : Nat) : Int) * 2 ^ (64 - p % 64) % 18446744073709551616) = fld bs p n := by
  apply Nat.eq_of_testBit_eq; intro j
  rw [Nat.testBit_or, fieldN_testBit _ _ _ (by omega) (by omega) hn, show (18446744073709551616 : Nat) = 2 ^ 64 from by decide, Nat.testBit_mod_two_pow, Nat.testBit_mul_two_pow,
    fieldN_testBit _ _ _ (by omega) (by omega) (by omega), fld_testBit, wordAt_testBit, wordAt_testBit]
  by_cases hj : j < n
  · by_cases h1 : p % 64 + j < 64
    · have h2 : 64 * (p / 64) + (p % 64 + j) = p + j := by omega
      have h3 : ¬ 64 - p % 64 ≤ j := by omega
      simp [hj, h1, h2, h3]
    · have h3 : 64 - p % 64 ≤ j := by omega
      have h4 : j < 64 := by omega
      have h5 : j - (64 - p % 64) < p % 64 + n - 64 := by omega
      have h6 : j - (64 - p % 64) < 64 := by omega
      have h7 : 64 * (p / 64 + 1) + (j - (64 - p % 64)) = p + j := by omega
      simp [hj, h1, h3, h4, h5, h6, h7]
  · have h5 : ¬ j - (64 - p % 64) < p % 64 + n - 64 := by omega
    simp [hj, h5]

/-- A number's first k bytes. -/
def leB (v k : Nat) : List UInt8 := (List.range k).map fun i => UInt8.ofNat (v / 256 ^ i)
theorem leB_succ (v k : Nat) : leB v (k + 1) = leB v k ++ [UInt8.ofNat (v / 256 ^ k)] := by simp [leB, List.range_succ]
theorem leB_length (v k : Nat) : (leB v k).length = k := by simp [leB]
theorem byteCells_append (a b : List UInt8) : Lib.byteCells (a ++ b) = Lib.byteCells a ++ Lib.byteCells b := by simp [Lib.byteCells]
theorem byteCells_one (x : Nat) : Lib.byteCells [UInt8.ofNat x] = [.int .u8 ((x % 256 : Nat) : Int)] := by simp [Lib.byteCells, UInt8.toNat_ofNat']

/-- A row's bytes. -/
def rowBytes (bs : List Bool) : List UInt8 := leB bs.length 8 ++ (words bs).flatMap (leB · 8)
/-- .. with its first k words. -/
def rowBytesTo (bs : List Bool) (k : Nat) : List UInt8 := leB bs.length 8 ++ ((words bs).take k).flatMap (leB · 8)
theorem rowBytesTo_all (bs : List Bool) : rowBytesTo bs (nwords bs.length) = rowBytes bs := by
  unfold rowBytesTo rowBytes; rw [List.take_of_length_le (by rw [words_length]; omega)]
theorem rowBytesTo_succ (bs : List Bool) (k : Nat) (h : k < nwords bs.length) : rowBytesTo bs (k + 1) = rowBytesTo bs k ++ leB (wordAt bs k) 8 := by
  unfold rowBytesTo
  have hk : k < (words bs).length := by rw [words_length]; exact h
  have := words_get bs h
  rw [List.getElem?_eq_getElem hk] at this
  injection this with this
  rw [List.take_succ_eq_append_getElem hk, List.flatMap_append, this, List.append_assoc]; simp
theorem flatMap_leB_length : ∀ l : List Nat, (l.flatMap (leB · 8)).length = 8 * l.length
  | [] => rfl
  | a :: l => by rw [List.flatMap_cons, List.length_append, flatMap_leB_length l, leB_length, List.length_cons]; omega
theorem rowBytesTo_length (bs : List Bool) (k : Nat) : (rowBytesTo bs k).length ≤ 8 + 8 * nwords bs.length := by
  unfold rowBytesTo
  rw [List.length_append, leB_length, flatMap_leB_length, List.length_take, words_length]; omega

/-- A row's word at any place; 0 of none. -/
def wordI (bs : List Bool) (i : Int) : Nat := if i < 0 then 0 else wordAt bs i.toNat
theorem wordI_nat (bs : List Bool) (k : Nat) : wordI bs (k : Int) = wordAt bs k := by unfold wordI; rw [if_neg (by omega), Int.toNat_natCast]
end L
end Go.Proofs.YtgpbpgpolpakjaaGreatDoor

/- Plain laws: when bytes are a row's, and whose. -/

set_option linter.unusedVariables false
set_option linter.unusedSimpArgs false
namespace Go.Proofs.YtgpbpgpolpakjaaGreatDoor

/-- Bytes as numbers. -/
def nats (l : List UInt8) : List Nat := l.map UInt8.toNat
theorem nats_lt (l : List UInt8) : ∀ b ∈ nats l, b < 256 := by
  intro b hb
  obtain ⟨x, _, rfl⟩ := List.mem_map.1 hb
  exact UInt8.toNat_lt x
namespace L

theorem nest_testBit : ∀ (l : List Nat), (∀ b ∈ l, b < 256) → ∀ (q r : Nat), r < 8 → (nest l).testBit (8 * q + r) = (l[q]?.getD 0).testBit r
  | [], _, q, r, _ => by simp [nest]
  | b :: l, h, 0, r, hr => by
    have hb := h b List.mem_cons_self
    have e : nest (b :: l) % 2 ^ 8 = b := by simp only [nest]; omega
    have := Nat.testBit_mod_two_pow (nest (b :: l)) 8 r
    rw [e] at this
    simp [hr] at this
    simpa using this.symm
  | b :: l, h, q + 1, r, hr => by
    have ih := nest_testBit l (fun c hc => h c (List.mem_cons_of_mem _ hc)) q r hr
    have hb := h b List.mem_cons_self
    have e : nest (b :: l) / 2 ^ 8 = nest l := by simp only [nest]; omega
    have : (nest (b :: l) / 2 ^ 8).testBit (8 * q + r) = (nest (b :: l)).testBit (8 * q + r + 8) := Nat.testBit_div_two_pow _ _
    rw [e, ih] at this
    rw [show 8 * (q + 1) + r = 8 * q + r + 8 from by omega, ← this]
    simp

theorem leB_cons (x y n : Nat) (hx : x < 256) : leB (x + 256 * y) (n + 1) = UInt8.ofNat x :: leB y n := by
  unfold leB
  rw [List.range_succ_eq_map, List.map_cons, List.map_map]
  congr 1
  · apply UInt8.toNat_inj.1
    rw [UInt8.toNat_ofNat', UInt8.toNat_ofNat', Nat.pow_zero, Nat.div_one]; omega
  · apply List.map_congr_left
    intro i _
    simp only [Function.comp]
    rw [Nat.pow_succ, Nat.mul_comm (256 ^ i) 256, ← Nat.div_div_eq_div_mul, show (x + 256 * y) / 256 = y from by omega]

/-- The bytes of the number of eight bytes are those bytes. -/
theorem leB_nest : ∀ (l : List UInt8), leB (nest (nats l)) l.length = l
  | [] => rfl
  | b :: l => by
    have e0 : nest (nats (b :: l)) = b.toNat + 256 * nest (nats l) := rfl
    rw [e0, List.length_cons, leB_cons _ _ _ (UInt8.toNat_lt b), leB_nest l]
    simp

theorem nest_leB (k : Nat) : ∀ v : Nat, nest (nats (leB v k)) = v % 256 ^ k := by
  induction k with
  | zero => intro v; simp [leB, nats, nest, Nat.mod_one]
  | succ k ih =>
    intro v
    have e : nats (leB v (k + 1)) = v % 256 :: nats (leB (v / 256) k) := by
      unfold leB nats
      rw [List.range_succ_eq_map, List.map_cons, List.map_cons, List.map_map, List.map_map, List.map_map]
      congr 1
      · simp [UInt8.toNat_ofNat']
      · apply List.map_congr_left
        intro i _
        simp only [Function.comp]
        rw [Nat.pow_succ, Nat.mul_comm (256 ^ i) 256, ← Nat.div_div_eq_div_mul]
    rw [e, nest, ih, Nat.pow_succ, Nat.mul_comm (256 ^ k) 256, Nat.mod_mul]

/-- The bytes behind the first eight, eight by eight. -/
def wordL (l : List UInt8) (i : Nat) : Nat := nest (nats ((l.drop (8 + 8 * i)).take 8))
/-- The number of the first eight bytes. -/
def valL (l : List UInt8) : Nat := nest (nats (l.take 8))
/-- The bits behind the first eight bytes. -/
def bitsL (l : List UInt8) (m : Nat) : List Bool := (List.range m).map fun i => (l[8 + i / 8]?.getD 0).toNat.testBit (i % 8)
theorem bitsL_length (l : List UInt8) (m : Nat) : (bitsL l m).length = m := by simp [bitsL]
theorem bitAt_bitsL (l : List UInt8) (m i : Nat) (h : i < m) : bitAt (bitsL l m) i = (l[8 + i / 8]?.getD 0).toNat.testBit (i % 8) := by
  unfold bitAt bitsL; simp [List.getElem?_range h]

theorem wordL_testBit (l : List UInt8) (i j : Nat) (hj : j < 64) : (wordL l i).testBit j = (l[8 + (64 * i + j) / 8]?.getD 0).toNat.testBit ((64 * i + j) % 8) := by
  unfold wordL
  have h := nest_testBit (nats ((l.drop (8 + 8 * i)).take 8)) (nats_lt _) (j / 8) (j % 8) (by omega)
  rw [show 8 * (j / 8) + j % 8 = j from by omega] at h
  rw [h, nats, List.getElem?_map, List.getElem?_take, if_pos (by omega), List.getElem?_drop, show 8 + 8 * i + j / 8 = 8 + (64 * i + j) / 8 from by omega, show (64 * i + j) % 8 = j % 8 from by omega]
  cases l[8 + (64 * i + j) / 8]? <;> rfl

/-- Are these bytes a row's? As the program asks. -/
def goodL (l : List UInt8) : Prop := 8 ≤ l.length ∧ valL l ≤ 4294967296 ∧ l.length = 8 + 8 * nwords (valL l) ∧ (valL l % 64 = 0 ∨ need (wordL l (valL l / 64)) ≤ valL l % 64)

theorem wordL_lt (l : List UInt8) (i : Nat) : wordL l i < 18446744073709551616 := by
  have h := nest_lt (nats ((l.drop (8 + 8 * i)).take 8)) (nats_lt _)
  have h2 : (nats ((l.drop (8 + 8 * i)).take 8)).length ≤ 8 := by simp [nats, List.length_take]; omega
  have h3 : (256 : Nat) ^ (nats ((l.drop (8 + 8 * i)).take 8)).length ≤ 256 ^ 8 := Nat.pow_le_pow_right (by omega) h2
  have h4 : (256 : Nat) ^ 8 = 18446744073709551616 := by decide
  unfold wordL; omega

theorem good_word {l : List UInt8} (h : goodL l) {i : Nat} (hi : i < nwords (valL l)) : wordAt (bitsL l (valL l)) i = wordL l i := by
  obtain ⟨h1, h2, h3, h4⟩ := h
  apply Nat.eq_of_testBit_eq; intro j
  rw [wordAt_testBit]
  by_cases hj : j < 64
  · by_cases hv : 64 * i + j < valL l
    · rw [bitAt_bitsL _ _ _ hv, wordL_testBit _ _ _ hj]; simp [hj]
    · rw [bitAt_ge _ _ (by rw [bitsL_length]; omega)]
      have hi2 : i = valL l / 64 := by unfold nwords at hi; omega
      subst hi2
      have h5 : valL l % 64 ≠ 0 := by unfold nwords at hi; omega
      have h6 := (need_le_iff _ _ (wordL_lt l (valL l / 64))).1 (h4.resolve_left h5)
      have h7 := testBit_lt (j := j) h6 (by omega)
      simp [h7]
  · have : (wordL l i).testBit j = false := by
      apply Nat.testBit_lt_two_pow
      have := wordL_lt l i
      have h64 : (18446744073709551616 : Nat) = 2 ^ 64 := by decide
      rw [h64] at this
      exact Nat.lt_of_lt_of_le this (Nat.pow_le_pow_right (by omega) (by omega))
    simp [hj, this]

theorem chunks : ∀ (m : Nat) (l : List UInt8), l.length = 8 * m → (List.range m).flatMap (fun i => (l.drop (8 * i)).take 8) = l
  | 0, l, h => by have : l = [] := List.eq_nil_of_length_eq_zero (by omega)
                  subst this; rfl
  | m + 1, l, h => by
    have ih := chunks m (l.drop 8) (by rw [List.length_drop]; omega)
    rw [List.range_succ_eq_map, List.flatMap_cons, List.flatMap_map]
    have e : ∀ i, (l.drop (8 * (i + 1))).take 8 = ((l.drop 8).drop (8 * i)).take 8 := fun i => by rw [List.drop_drop, show 8 * (i + 1) = 8 + 8 * i from by omega]
    simp only [Nat.succ_eq_add_one, e, ih]
    simp

theorem good_bytes {l : List UInt8} (h : goodL l) : rowBytes (bitsL l (valL l)) = l := by
  have hg := h
  obtain ⟨h1, h2, h3, h4⟩ := h
  unfold rowBytes
  rw [bitsL_length]
  have e1 : leB (valL l) 8 = l.take 8 := by
    have := leB_nest (l.take 8)
    rw [List.length_take, Nat.min_eq_left h1] at this
    exact this
  have e2 : words (bitsL l (valL l)) = (List.range (nwords (valL l))).map (wordL l) := by
    unfold words
    rw [bitsL_length]
    apply List.map_congr_left
    intro i hi
    exact good_word hg (List.mem_range.1 hi)
  have e3 : ((List.range (nwords (valL l))).map (wordL l)).flatMap (leB · 8) = l.drop 8 := by
    have hc := chunks (nwords (valL l)) (l.drop 8) (by rw [List.length_drop]; omega)
    rw [List.flatMap_map]
    refine Eq.trans ?_ hc
    rw [List.flatMap_def, List.flatMap_def]
    congr 1
    apply List.map_congr_left
    intro i hi
    have hi' := List.mem_range.1 hi
    have := leB_nest ((l.drop (8 + 8 * i)).take 8)
    rw [List.length_take, List.length_drop, Nat.min_eq_left (by omega)] at this
    rw [List.drop_drop]
    exact this
  rw [e1, e2, e3, List.take_append_drop]

theorem drop_flatMap : ∀ (ws : List Nat) (i : Nat) (h : i < ws.length), ((ws.flatMap (leB · 8)).drop (8 * i)).take 8 = leB ws[i] 8
  | w :: ws, 0, _ => by
    rw [List.flatMap_cons]
    simp only [Nat.mul_zero, List.drop_zero, List.getElem_cons_zero]
    rw [List.take_append_of_le_length (by rw [leB_length]; omega), List.take_of_length_le (by rw [leB_length]; omega)]
  | w :: ws, i + 1, h => by
    rw [List.flatMap_cons, show 8 * (i + 1) = 8 + 8 * i from by omega, List.drop_append, leB_length]
    rw [List.drop_eq_nil_of_le (by rw [leB_length]; omega), List.nil_append, show 8 + 8 * i - 8 = 8 * i from by omega]
    exact drop_flatMap ws i (by simpa using h)

theorem row_val (bs : List Bool) (h : bs.length ≤ 4294967296) : valL (rowBytes bs) = bs.length := by
  unfold valL rowBytes
  rw [List.take_append_of_le_length (by rw [leB_length]; omega), List.take_of_length_le (by rw [leB_length]; omega), nest_leB]
  exact Nat.mod_eq_of_lt (Nat.lt_of_le_of_lt h (by decide))
theorem row_length (bs : List Bool) : (rowBytes bs).length = 8 + 8 * nwords bs.length := by
  unfold rowBytes; rw [List.length_append, leB_length, flatMap_leB_length, words_length]
theorem row_word (bs : List Bool) {i : Nat} (hi : i < nwords bs.length) : wordL (rowBytes bs) i = wordAt bs i := by
  unfold wordL rowBytes
  rw [List.drop_append, leB_length, List.drop_eq_nil_of_le (by rw [leB_length]; omega), List.nil_append, show 8 + 8 * i - 8 = 8 * i from by omega, drop_flatMap _ i (by rw [words_length]; exact hi), nest_leB]
  have := words_get bs hi
  rw [List.getElem?_eq_getElem (by rw [words_length]; exact hi)] at this
  injection this with this
  rw [this]
  exact Nat.mod_eq_of_lt (Nat.lt_of_lt_of_eq (wordAt_lt bs i) (by decide))

theorem row_bits (bs : List Bool) : bitsL (rowBytes bs) bs.length = bs := by
  apply ext_bits
  · rw [bitsL_length]
  · intro i hi
    rw [bitsL_length] at hi
    have hw : i / 64 < nwords bs.length := by unfold nwords; omega
    have h1 := wordL_testBit (rowBytes bs) (i / 64) (i % 64) (by omega)
    rw [show 64 * (i / 64) + i % 64 = i from by omega, row_word bs hw, wordAt_testBit, show 64 * (i / 64) + i % 64 = i from by omega] at h1
    have h64 : i % 64 < 64 := by omega
    rw [bitAt_bitsL _ _ _ hi, ← h1]; simp [h64]

theorem row_good (bs : List Bool) (h : bs.length ≤ 4294967296) : goodL (rowBytes bs) := by
  refine ⟨by rw [row_length]; omega, by rw [row_val bs h]; exact h, by rw [row_val bs h, row_length], ?_⟩
  rw [row_val bs h]
  by_cases h0 : bs.length % 64 = 0
  · exact .inl h0
  · right
    rw [row_word bs (by unfold nwords; omega), need_le_iff _ _ (wordAt_lt _ _)]
    have := num_lt ((bs.drop (64 * (bs.length / 64))).take 64)
    rw [List.length_take, List.length_drop, show min 64 (bs.length - 64 * (bs.length / 64)) = bs.length % 64 from by omega] at this
    exact this

end L
end Go.Proofs.YtgpbpgpolpakjaaGreatDoor

/- Plain laws: the ones of a row counted; the entries of a directory. No program in sight. -/

set_option linter.unusedVariables false
set_option linter.unusedSimpArgs false
namespace Go.Proofs.YtgpbpgpolpakjaaGreatDoor.L

/-- How many of a row's first n bits are 1. -/
def cnt (bs : List Bool) : Nat → Nat
  | 0 => 0
  | n + 1 => cnt bs n + (bitAt bs n).toNat

theorem cnt_le (bs : List Bool) (n : Nat) : cnt bs n ≤ n := by
  induction n with
  | zero => simp [cnt]
  | succ n ih => have := Bool.toNat_le (bitAt bs n); simp only [cnt]; omega
theorem cnt_mono (bs : List Bool) {a b : Nat} (h : a ≤ b) : cnt bs a ≤ cnt bs b := by
  induction b with
  | zero => have : a = 0 := by omega
            subst this; exact Nat.le_refl _
  | succ b ih =>
    rcases Nat.lt_or_ge b a with h2 | h2
    · have : a = b + 1 := by omega
      subst this; exact Nat.le_refl _
    · have := ih h2; simp only [cnt]; omega
theorem cnt_diff (bs : List Bool) (a n : Nat) : cnt bs (a + n) ≤ cnt bs a + n := by
  induction n with
  | zero => simp
  | succ n ih => have := Bool.toNat_le (bitAt bs (a + n)); rw [← Nat.add_assoc]; simp only [cnt]; omega
theorem cnt_ge (bs : List Bool) (n : Nat) (h : bs.length ≤ n) : cnt bs n = cnt bs bs.length := by
  obtain ⟨d, rfl⟩ : ∃ d, n = bs.length + d := ⟨n - bs.length, by omega⟩
  clear h
  induction d with
  | zero => rfl
  | succ d ih => rw [← Nat.add_assoc]; simp only [cnt]; rw [ih, bitAt_ge bs _ (by omega)]; simp
theorem cnt_len (bs : List Bool) (n : Nat) : cnt bs n ≤ bs.length := by
  rcases Nat.lt_or_ge n bs.length with h | h
  · have := cnt_le bs n; omega
  · rw [cnt_ge bs n h]; exact cnt_le _ _
/-- A word's ones stand behind those ahead of it. -/
theorem cnt_word (bs : List Bool) (i n : Nat) (h : n ≤ 64) : cnt bs (64 * i + n) = cnt bs (64 * i) + onesTo (wordAt bs i) n := by
  induction n with
  | zero => simp [onesTo]
  | succ n ih =>
    rw [← Nat.add_assoc]; simp only [cnt, onesTo]
    rw [ih (by omega), wordAt_testBit]
    have : decide (n < 64) = true := by simp; omega
    rw [this, Bool.true_and]; omega

/-- What the first m counts of a block make. -/
def packed (bs : List Bool) (b : Nat) : Nat → Nat
  | 0 => 0
  | m + 1 => packed bs b m + (cnt bs (512 * b + 64 * (m + 1)) - cnt bs (512 * b)) * 2 ^ (9 * m)

theorem inBlock_lt (bs : List Bool) (b m : Nat) (h : m ≤ 7) : cnt bs (512 * b + 64 * m) - cnt bs (512 * b) < 512 := by
  have := cnt_diff bs (512 * b) (64 * m); omega
theorem packed_lt (bs : List Bool) (b : Nat) : ∀ m, m ≤ 7 → packed bs b m < 2 ^ (9 * m)
  | 0, _ => by simp [packed]
  | m + 1, h => by
    have ih := packed_lt bs b m (by omega)
    have h1 := inBlock_lt bs b (m + 1) h
    have e : 2 ^ (9 * (m + 1)) = 512 * 2 ^ (9 * m) := by rw [show 9 * (m + 1) = 9 + 9 * m from by omega, Nat.pow_add]
    rw [e]; simp only [packed]
    have h2 : (cnt bs (512 * b + 64 * (m + 1)) - cnt bs (512 * b)) * 2 ^ (9 * m) ≤ 511 * 2 ^ (9 * m) := Nat.mul_le_mul_right _ (by omega)
    omega
theorem packed_lt64 (bs : List Bool) (b m : Nat) (h : m ≤ 7) : packed bs b m < 9223372036854775808 := by
  have h1 := packed_lt bs b m h
  have h2 : (2 : Nat) ^ (9 * m) ≤ 2 ^ 63 := Nat.pow_le_pow_right (by omega) (by omega)
  omega
theorem packed_digit (bs : List Bool) (b j : Nat) : ∀ m, m ≤ 7 → j < m → packed bs b m / 2 ^ (9 * j) % 512 = cnt bs (512 * b + 64 * (j + 1)) - cnt bs (512 * b)
  | 0, _, h => by omega
  | m + 1, h, hj => by
    have h1 := inBlock_lt bs b (m + 1) h
    simp only [packed]
    rcases Nat.lt_or_ge j m with h2 | h2
    · have ih := packed_digit bs b j m (by omega) h2
      have e : 2 ^ (9 * m) = 2 ^ (9 * j) * (512 * 2 ^ (9 * (m - j - 1))) := by
        rw [show (512 : Nat) = 2 ^ 9 from rfl, ← Nat.pow_add, ← Nat.pow_add]; congr 1; omega
      rw [e]
      generalize cnt bs (512 * b + 64 * (m + 1)) - cnt bs (512 * b) = c at *
      rw [Nat.mul_left_comm c, Nat.mul_left_comm c 512, Nat.add_mul_div_left _ _ (Nat.two_pow_pos _), Nat.add_mul_mod_self_left]
      exact ih
    · have : j = m := by omega
      subst this
      have h3 := packed_lt bs b j (by omega)
      rw [Nat.mul_comm, Nat.add_mul_div_left _ _ (Nat.two_pow_pos _), Nat.div_eq_of_lt h3, Nat.zero_add]
      exact Nat.mod_eq_of_lt h1
/-- One count more. -/
theorem packed_or (bs : List Bool) (b m : Nat) (h : m < 7) : packed bs b m ||| ((cnt bs (512 * b + 64 * (m + 1)) - cnt bs (512 * b)) * 2 ^ (9 * m) % 18446744073709551616) = packed bs b (m + 1) := by
  have h1 := packed_lt bs b m (by omega)
  have h2 := packed_lt64 bs b (m + 1) (by omega)
  simp only [packed] at h2 ⊢
  rw [Nat.mod_eq_of_lt (by omega), Nat.or_comm, Nat.mul_comm, ← Nat.two_pow_add_eq_or_of_lt h1]
  omega

/-- A place, held within a row. -/
def held (n : Nat) (i : Int) : Nat := (min (max i 0) n).toNat
theorem held_le (n : Nat) (i : Int) : held n i ≤ n := by unfold held; omega
theorem held_nat (n k : Nat) (h : k ≤ n) : held n (k : Nat) = k := by unfold held; omega

/-- A place's rank, of its block's entry and its word. -/
theorem cnt_parts (bs : List Bool) (p : Nat) : cnt bs p = cnt bs (512 * (p / 512)) + (if p / 64 % 8 = 0 then 0 else packed bs (p / 512) 7 / 2 ^ (9 * (p / 64 % 8 - 1)) % 512) + onesTo (wordAt bs (p / 64)) (p % 64) := by
  have h1 := cnt_word bs (p / 64) (p % 64) (by omega)
  rw [show 64 * (p / 64) + p % 64 = p from by omega] at h1
  rw [h1]
  have h3 : 64 * (p / 64) = 512 * (p / 512) + 64 * (p / 64 % 8) := by omega
  by_cases h0 : p / 64 % 8 = 0
  · rw [if_pos h0, h3, h0]; simp
  · rw [if_neg h0, packed_digit bs (p / 512) (p / 64 % 8 - 1) 7 (by omega) (by omega), show p / 64 % 8 - 1 + 1 = p / 64 % 8 from by omega, ← h3]
    have := cnt_mono bs (show 512 * (p / 512) ≤ 64 * (p / 64) by omega)
    omega

/-- The entries of a row's first n blocks. -/
def entries (bs : List Bool) (n : Nat) : List Nat := (List.range n).flatMap fun b => [cnt bs (512 * b), packed bs b 7]
theorem entries_succ (bs : List Bool) (n : Nat) : entries bs (n + 1) = entries bs n ++ [cnt bs (512 * n), packed bs n 7] := by simp [entries, List.range_succ]
theorem entries_length (bs : List Bool) (n : Nat) : (entries bs n).length = 2 * n := by
  induction n with
  | zero => rfl
  | succ n ih => rw [entries_succ, List.length_append, ih]; simp; omega
theorem entries_get (bs : List Bool) (n b : Nat) (h : b < n) : (entries bs n)[2 * b]? = some (cnt bs (512 * b)) ∧ (entries bs n)[2 * b + 1]? = some (packed bs b 7) := by
  induction n with
  | zero => omega
  | succ n ih =>
    have hl := entries_length bs n
    rw [entries_succ]
    rcases Nat.lt_or_ge b n with h2 | h2
    · obtain ⟨a1, a2⟩ := ih h2
      exact ⟨by rw [List.getElem?_append_left (by omega)]; exact a1, by rw [List.getElem?_append_left (by omega)]; exact a2⟩
    · have : b = n := by omega
      subst this
      constructor
      · rw [List.getElem?_append_right (by omega), hl, Nat.sub_self]; rfl
      · rw [List.getElem?_append_right (by omega), hl, show 2 * b + 1 - 2 * b = 1 from by omega]; rfl

end Go.Proofs.YtgpbpgpolpakjaaGreatDoor.L

/- Plain laws: the excess of some bits, its least and its greatest, where it is first so great. No program in sight. -/

set_option linter.unusedVariables false
set_option linter.unusedSimpArgs false
namespace Go.Proofs.YtgpbpgpolpakjaaGreatDoor.L

/-- What a bit adds to the excess. -/
def sgn (b : Bool) : Int := if b then 1 else -1
/-- The excess of the first n bits. -/
def ex (f : Nat → Bool) : Nat → Int
  | 0 => 0
  | n + 1 => ex f n + sgn (f n)
/-- The least excess of the first 1, .., n bits; 0 where n is 0. -/
def lo (f : Nat → Bool) : Nat → Int
  | 0 => 0
  | n + 1 => if n = 0 then ex f 1 else min (lo f n) (ex f (n + 1))
def hi (f : Nat → Bool) : Nat → Int
  | 0 => 0
  | n + 1 => if n = 0 then ex f 1 else max (hi f n) (ex f (n + 1))
/-- The first number of bits, of 1, .., n, whose excess is d; 0 where there is none. -/
def fnd (f : Nat → Bool) (d : Int) : Nat → Nat
  | 0 => 0
  | n + 1 => if fnd f d n ≠ 0 then fnd f d n else if ex f (n + 1) = d then n + 1 else 0
/-- The bits behind the first a. -/
def sh (f : Nat → Bool) (a : Nat) : Nat → Bool := fun i => f (a + i)

theorem sgn_abs (b : Bool) : -1 ≤ sgn b ∧ sgn b ≤ 1 := by cases b <;> simp [sgn]
theorem ex_abs (f : Nat → Bool) (n : Nat) : -(n : Int) ≤ ex f n ∧ ex f n ≤ n := by
  induction n with
  | zero => simp [ex]
  | succ n ih => have := sgn_abs (f n); simp only [ex]; omega
theorem ex_congr {f g : Nat → Bool} (n : Nat) (h : ∀ i, i < n → f i = g i) : ex f n = ex g n := by
  induction n with
  | zero => rfl
  | succ n ih => simp only [ex]; rw [ih (fun i hi => h i (by omega)), h n (by omega)]
theorem lo_congr {f g : Nat → Bool} (n : Nat) (h : ∀ i, i < n → f i = g i) : lo f n = lo g n := by
  induction n with
  | zero => rfl
  | succ n ih =>
    simp only [lo]
    rw [ih (fun i hi => h i (by omega)), ex_congr (n + 1) h, ex_congr (f := f) (g := g) 1 (fun i hi => h i (by omega))]
theorem hi_congr {f g : Nat → Bool} (n : Nat) (h : ∀ i, i < n → f i = g i) : hi f n = hi g n := by
  induction n with
  | zero => rfl
  | succ n ih =>
    simp only [hi]
    rw [ih (fun i hi => h i (by omega)), ex_congr (n + 1) h, ex_congr (f := f) (g := g) 1 (fun i hi => h i (by omega))]
theorem ex_add (f : Nat → Bool) (a b : Nat) : ex f (a + b) = ex f a + ex (sh f a) b := by
  induction b with
  | zero => simp [ex]
  | succ b ih => rw [← Nat.add_assoc]; simp only [ex]; rw [ih]; simp only [sh]; omega
theorem lo_bound (f : Nat → Bool) (n : Nat) : -(n : Int) ≤ lo f n ∧ lo f n ≤ n := by
  induction n with
  | zero => simp [lo]
  | succ n ih =>
    have h1 := ex_abs f (n + 1)
    have h2 := ex_abs f 1
    simp only [lo]
    split <;> omega
theorem hi_bound (f : Nat → Bool) (n : Nat) : -(n : Int) ≤ hi f n ∧ hi f n ≤ n := by
  induction n with
  | zero => simp [hi]
  | succ n ih =>
    have h1 := ex_abs f (n + 1)
    have h2 := ex_abs f 1
    simp only [hi]
    split <;> omega
theorem lo_add (f : Nat → Bool) (a b : Nat) (ha : 0 < a) (hb : 0 < b) : lo f (a + b) = min (lo f a) (lo (sh f a) b + ex f a) := by
  induction b with
  | zero => omega
  | succ b ih =>
    rw [← Nat.add_assoc]
    simp only [lo]
    rw [if_neg (by omega)]
    by_cases h0 : b = 0
    · subst h0; rw [if_pos rfl]; simp only [Nat.add_zero, lo]
      have := ex_add f a 1
      rw [this]; omega
    · rw [if_neg h0, ih (by omega), Nat.add_assoc, ex_add f a (b + 1)]; omega
theorem hi_add (f : Nat → Bool) (a b : Nat) (ha : 0 < a) (hb : 0 < b) : hi f (a + b) = max (hi f a) (hi (sh f a) b + ex f a) := by
  induction b with
  | zero => omega
  | succ b ih =>
    rw [← Nat.add_assoc]
    simp only [hi]
    rw [if_neg (by omega)]
    by_cases h0 : b = 0
    · subst h0; rw [if_pos rfl]; simp only [Nat.add_zero, hi]
      have := ex_add f a 1
      rw [this]; omega
    · rw [if_neg h0, ih (by omega), Nat.add_assoc, ex_add f a (b + 1)]; omega
theorem fnd_le (f : Nat → Bool) (d : Int) (n : Nat) : fnd f d n ≤ n := by
  induction n with
  | zero => simp [fnd]
  | succ n ih =>
    simp only [fnd]
    split
    · omega
    · split <;> omega
theorem fnd_ex (f : Nat → Bool) (d : Int) (n : Nat) (h : fnd f d n ≠ 0) : ex f (fnd f d n) = d := by
  induction n with
  | zero => simp [fnd] at h
  | succ n ih =>
    simp only [fnd] at h ⊢
    by_cases h1 : fnd f d n ≠ 0
    · rw [if_pos h1]; exact ih h1
    · rw [if_neg h1] at h ⊢
      by_cases h2 : ex f (n + 1) = d
      · rw [if_pos h2]; exact h2
      · rw [if_neg h2] at h; exact absurd rfl h
theorem fnd_none (f : Nat → Bool) (d : Int) (n : Nat) : fnd f d n = 0 ↔ ∀ k, 0 < k → k ≤ n → ex f k ≠ d := by
  induction n with
  | zero => simp only [fnd, true_iff]; intro k h1 h2; omega
  | succ n ih =>
    simp only [fnd]
    by_cases h1 : fnd f d n ≠ 0
    · rw [if_pos h1]
      constructor
      · intro h; exact absurd h h1
      · intro h; exact absurd (fnd_ex f d n h1) (h _ (by omega) (by have := fnd_le f d n; omega))
    · rw [if_neg h1]
      have h1' : fnd f d n = 0 := by omega
      have h3 := ih.1 h1'
      by_cases h2 : ex f (n + 1) = d
      · rw [if_pos h2]
        constructor
        · intro h; omega
        · intro h; exact absurd h2 (h _ (by omega) (by omega))
      · rw [if_neg h2]
        simp only [true_iff]
        intro k hk1 hk2
        rcases Nat.lt_or_ge n k with h4 | h4
        · have : k = n + 1 := by omega
          subst this; exact h2
        · exact h3 k hk1 h4
theorem fnd_keep (f : Nat → Bool) (d : Int) (a b : Nat) (h : fnd f d a ≠ 0) : fnd f d (a + b) = fnd f d a := by
  induction b with
  | zero => rfl
  | succ b ih => rw [← Nat.add_assoc]; simp only [fnd]; rw [ih, if_pos h]
theorem fnd_add (f : Nat → Bool) (d : Int) (a b : Nat) (h : fnd f d a = 0) : fnd f d (a + b) = if fnd (sh f a) (d - ex f a) b = 0 then 0 else a + fnd (sh f a) (d - ex f a) b := by
  induction b with
  | zero => simp [fnd, h]
  | succ b ih =>
    have hs1 : fnd f d (a + (b + 1)) = if fnd f d (a + b) ≠ 0 then fnd f d (a + b) else if ex f (a + (b + 1)) = d then a + (b + 1) else 0 := rfl
    have hs2 : fnd (sh f a) (d - ex f a) (b + 1) = if fnd (sh f a) (d - ex f a) b ≠ 0 then fnd (sh f a) (d - ex f a) b else if ex (sh f a) (b + 1) = d - ex f a then b + 1 else 0 := rfl
    rw [hs1, ih, ex_add f a (b + 1)]
    by_cases h1 : fnd (sh f a) (d - ex f a) b = 0
    · rw [if_neg (show ¬ (fnd (sh f a) (d - ex f a) b ≠ 0) by omega)] at hs2
      rw [if_pos h1, if_neg (by omega)]
      by_cases h2 : ex (sh f a) (b + 1) = d - ex f a
      · rw [if_pos h2] at hs2
        rw [hs2, if_pos (by omega), if_neg (by omega)]
      · rw [if_neg h2] at hs2
        rw [hs2, if_neg (by omega), if_pos rfl]
    · rw [if_pos h1] at hs2
      rw [if_neg h1, if_pos (by omega), hs2, if_neg h1]
/-- The excess by the ones. -/
theorem ex_ones (w n : Nat) : ex w.testBit n = 2 * (onesTo w n : Int) - n := by
  induction n with
  | zero => simp [ex, onesTo]
  | succ n ih => simp only [ex, onesTo]; rw [ih]; cases w.testBit n <;> simp [sgn] <;> omega
/-- The steps of word.Reach. -/
def lo64 (f : Nat → Bool) (n : Nat) : Int := if n = 0 then 64 else lo f n
def hi64 (f : Nat → Bool) (n : Nat) : Int := if n = 0 then -64 else hi f n
theorem lo64_succ (f : Nat → Bool) (n : Nat) (h : n < 64) : lo64 f (n + 1) = min (lo64 f n) (ex f (n + 1)) := by
  have := ex_abs f 1
  unfold lo64
  rw [if_neg (by omega)]
  simp only [lo]
  by_cases h0 : n = 0
  · subst h0; simp only [if_true, Nat.zero_add]; omega
  · rw [if_neg h0, if_neg h0]
theorem hi64_succ (f : Nat → Bool) (n : Nat) (h : n < 64) : hi64 f (n + 1) = max (hi64 f n) (ex f (n + 1)) := by
  have := ex_abs f 1
  unfold hi64
  rw [if_neg (by omega)]
  simp only [hi]
  by_cases h0 : n = 0
  · subst h0; simp only [if_true, Nat.zero_add]; omega
  · rw [if_neg h0, if_neg h0]

end Go.Proofs.YtgpbpgpolpakjaaGreatDoor.L

/- Plain laws: the steps of math/bits.Reverse64; bits of a word turned round. No program in sight. -/

set_option linter.unusedVariables false
set_option linter.unusedSimpArgs false
namespace Go.Proofs.YtgpbpgpolpakjaaGreatDoor.L

def m1 : Nat := 6148914691236517205
def m2 : Nat := 3689348814741910323
def m4 : Nat := 1085102592571150095
end Go.Proofs.YtgpbpgpolpakjaaGreatDoor.L

/- Plain laws: excesses from the end, turned rows, balanced rows. No program in sight. -/

set_option linter.unusedVariables false
set_option linter.unusedSimpArgs false
namespace Go.Proofs.YtgpbpgpolpakjaaGreatDoor.L

theorem ex_one (f : Nat → Bool) : ex f 1 = sgn (f 0) := by simp [ex]
theorem lo_ge (f : Nat → Bool) (c : Int) (n : Nat) (h : 0 < n) : c ≤ lo f n ↔ ∀ k, 0 < k → k ≤ n → c ≤ ex f k := by
  induction n with
  | zero => omega
  | succ n ih =>
    simp only [lo]
    by_cases h0 : n = 0
    · subst h0; rw [if_pos rfl]
      constructor
      · intro h k h1 h2
        have : k = 1 := by omega
        subst this; exact h
      · intro h; exact h 1 (by omega) (by omega)
    · rw [if_neg h0]
      have ih := ih (by omega)
      constructor
      · intro h k h1 h2
        rcases Nat.lt_or_ge n k with h3 | h3
        · have : k = n + 1 := by omega
          subst this; omega
        · exact (ih.1 (by omega)) k h1 h3
      · intro h
        have h1 := ih.2 (fun k a b => h k a (by omega))
        have h2 := h (n + 1) (by omega) (by omega)
        omega
theorem hi_le (f : Nat → Bool) (c : Int) (n : Nat) (h : 0 < n) : hi f n ≤ c ↔ ∀ k, 0 < k → k ≤ n → ex f k ≤ c := by
  induction n with
  | zero => omega
  | succ n ih =>
    simp only [hi]
    by_cases h0 : n = 0
    · subst h0; rw [if_pos rfl]
      constructor
      · intro h k h1 h2
        have : k = 1 := by omega
        subst this; exact h
      · intro h; exact h 1 (by omega) (by omega)
    · rw [if_neg h0]
      have ih := ih (by omega)
      constructor
      · intro h k h1 h2
        rcases Nat.lt_or_ge n k with h3 | h3
        · have : k = n + 1 := by omega
          subst this; omega
        · exact (ih.1 (by omega)) k h1 h3
      · intro h
        have h1 := ih.2 (fun k a b => h k a (by omega))
        have h2 := h (n + 1) (by omega) (by omega)
        omega
/-- From the end: the other way round the excess of all is the same. -/
theorem ex_rev (f : Nat → Bool) (n : Nat) : ex (fun i => f (n - 1 - i)) n = ex f n := by
  induction n with
  | zero => rfl
  | succ n ih =>
    have h1 : ex (fun i => f (n + 1 - 1 - i)) (1 + n) = ex (fun i => f (n + 1 - 1 - i)) 1 + ex (sh (fun i => f (n + 1 - 1 - i)) 1) n := ex_add _ 1 n
    have h2 : ex (sh (fun i => f (n + 1 - 1 - i)) 1) n = ex (fun i => f (n - 1 - i)) n := ex_congr n (fun i hi => by
      show f (n + 1 - 1 - (1 + i)) = f (n - 1 - i)
      congr 1; omega)
    have h3 : ex (fun i => f (n + 1 - 1 - i)) (n + 1) = ex (fun i => f (n + 1 - 1 - i)) (1 + n) := by rw [Nat.add_comm n 1]
    have h4 : ex f (n + 1) = ex f n + sgn (f n) := rfl
    rw [h3, h1, h2, ih, ex_one, h4]
    have h5 : n + 1 - 1 - 0 = n := by omega
    simp only [h5]
    omega

/-- The bits ahead of a place, from it on. -/
def rv (f : Nat → Bool) (b : Nat) : Nat → Bool := fun i => f (b - 1 - i)
theorem ex_rv (f : Nat → Bool) (a b : Nat) (h : a ≤ b) : ex (rv f b) (b - a) = ex (sh f a) (b - a) := by
  rw [← ex_rev (sh f a) (b - a)]
  refine ex_congr _ (fun i hi => ?_)
  show f (b - 1 - i) = f (a + (b - a - 1 - i))
  congr 1; omega

/-- Where a beginning of a stretch has an excess; -1. -/
def forthN (f : Nat → Bool) (a b : Nat) (d : Int) : Int := if fnd (sh f a) d (b - a) = 0 then -1 else (a : Int) + fnd (sh f a) d (b - a) - 1
/-- Where an end of a stretch has an excess; -1. -/
def backN (f : Nat → Bool) (a b : Nat) (d : Int) : Int := if fnd (rv f b) d (b - a) = 0 then -1 else (b : Int) - fnd (rv f b) d (b - a)

/-- Are the first n bits balanced? -/
def bal (f : Nat → Bool) (n : Nat) : Bool := decide (ex f n = 0) && decide (0 ≤ lo f n)
theorem lo_zero (f : Nat → Bool) : lo f 0 = 0 := rfl
theorem bal_iff (f : Nat → Bool) (n : Nat) : bal f n = true ↔ ex f n = 0 ∧ ∀ k, k ≤ n → 0 ≤ ex f k := by
  unfold bal
  rw [Bool.and_eq_true, decide_eq_true_eq, decide_eq_true_eq]
  rcases Nat.eq_zero_or_pos n with h | h
  · subst h
    constructor
    · intro _
      refine ⟨rfl, fun k hk => ?_⟩
      have : k = 0 := by omega
      subst this; exact Int.le_refl _
    · intro _; exact ⟨rfl, by rw [lo_zero]; exact Int.le_refl _⟩
  · rw [lo_ge f 0 n h]
    constructor
    · intro ⟨h1, h2⟩
      refine ⟨h1, fun k hk => ?_⟩
      rcases Nat.eq_zero_or_pos k with h3 | h3
      · subst h3; exact Int.le_refl _
      · exact h2 k h3 hk
    · intro ⟨h1, h2⟩; exact ⟨h1, fun k _ hk => h2 k hk⟩
end Go.Proofs.YtgpbpgpolpakjaaGreatDoor.L

/- Plain laws: where a word's k-th 1 is; the lowest 1 of a word. No program in sight. -/


set_option linter.unusedVariables false
set_option linter.unusedSimpArgs false
namespace Go.Proofs.YtgpbpgpolpakjaaGreatDoor.L

/-- The first of n places that is a 1 ahead of which k others are; 64. -/
def selTo (x : Nat) (k : Int) : Nat → Nat
  | 0 => 64
  | n + 1 => if selTo x k n < 64 then selTo x k n else if x.testBit n ∧ (onesTo x n : Int) = k then n else 64
def selN (x : Nat) (k : Int) : Nat := selTo x k 64

theorem onesTo_step (x p q : Nat) (h : p < q) (hp : x.testBit p = true) : onesTo x p < onesTo x q := by
  have h1 : onesTo x (p + 1) = onesTo x p + 1 := by simp [onesTo, hp]
  have h2 := onesTo_mono x (show p + 1 ≤ q by omega)
  omega
theorem sel_unique (x p q : Nat) (hp : x.testBit p = true) (hq : x.testBit q = true) (h : onesTo x p = onesTo x q) : p = q := by
  rcases Nat.lt_trichotomy p q with h1 | h1 | h1
  · have := onesTo_step x p q h1 hp; omega
  · exact h1
  · have := onesTo_step x q p h1 hq; omega
theorem selTo_eq (x p : Nat) (k : Int) (hp : x.testBit p = true) (hk : (onesTo x p : Int) = k) (h64 : p < 64) : ∀ n, selTo x k n = if p < n then p else 64
  | 0 => by simp [selTo]
  | n + 1 => by
    simp only [selTo]
    rw [selTo_eq x p k hp hk h64 n]
    by_cases h1 : p < n
    · rw [if_pos h1, if_pos h64, if_pos (by omega)]
    · rw [if_neg h1, if_neg (show ¬ ((64 : Nat) < 64) by omega)]
      by_cases h2 : p = n
      · subst h2; rw [if_pos ⟨hp, hk⟩, if_pos (show p < p + 1 by omega)]
      · rw [if_neg (show ¬ (p < n + 1) by omega), if_neg]
        intro ⟨h3, h4⟩
        exact h2 (sel_unique x p n hp h3 (by omega))
theorem selN_eq (x p : Nat) (k : Int) (hp : x.testBit p = true) (hk : (onesTo x p : Int) = k) (h64 : p < 64) : selN x k = p := by
  unfold selN; rw [selTo_eq x p k hp hk h64, if_pos h64]
theorem selTo_none (x : Nat) (k : Int) : ∀ n, (k < 0 ∨ (onesTo x n : Int) ≤ k) → selTo x k n = 64
  | 0, _ => rfl
  | n + 1, h => by
    have hm := onesTo_mono x (show n ≤ n + 1 by omega)
    simp only [selTo]
    rw [selTo_none x k n (by omega), if_neg (by omega), if_neg]
    intro ⟨h1, h2⟩
    have : onesTo x (n + 1) = onesTo x n + 1 := by simp [onesTo, h1]
    omega
theorem selN_none (x : Nat) (k : Int) (h : k < 0 ∨ (onesTo x 64 : Int) ≤ k) : selN x k = 64 := selTo_none x k 64 h
theorem sel_exists (x k : Nat) : ∀ n, k < onesTo x n → ∃ p, p < n ∧ x.testBit p = true ∧ onesTo x p = k
  | 0, h => by simp [onesTo] at h
  | n + 1, h => by
    by_cases h1 : k < onesTo x n
    · obtain ⟨p, hp, h2⟩ := sel_exists x k n h1
      exact ⟨p, by omega, h2⟩
    · simp only [onesTo] at h
      have hb : x.testBit n = true := by
        cases hb : x.testBit n
        · rw [hb] at h; simp at h; omega
        · rfl
      rw [hb] at h
      simp at h
      exact ⟨n, by omega, hb, by omega⟩
/-- Eight bits on. -/
theorem octet_on (w P : Nat) (hb : w.testBit P = true) (h : onesTo w 8 ≤ onesTo w P) : 8 ≤ P ∧ (w / 256).testBit (P - 8) = true ∧ onesTo (w / 256) (P - 8) = onesTo w P - onesTo w 8 := by
  have h8 : 8 ≤ P := by
    rcases Nat.lt_or_ge P 8 with h1 | h1
    · have := onesTo_step w P 8 h1 hb; omega
    · exact h1
  refine ⟨h8, ?_, ?_⟩
  · rw [show (256 : Nat) = 2 ^ 8 from rfl, Nat.testBit_div_two_pow, show P - 8 + 8 = P from by omega]; exact hb
  · have := onesTo_add w 8 (P - 8)
    rw [show 8 + (P - 8) = P from by omega] at this
    rw [show (256 : Nat) = 2 ^ 8 from rfl]; omega
/-- The lowest 1. -/
theorem low_split (w : Nat) (h0 : w ≠ 0) (hw : w < 18446744073709551616) : ∃ c m, Lib.ctz 64 w = c ∧ c < 64 ∧ w = 2 ^ c * (2 * m + 1) := by
  obtain ⟨m, hm, hk⟩ := Lib.ctzFrom_spec 64 w (by omega) hw
  exact ⟨_, m, by simp [Lib.ctz, h0], hk, hm⟩
theorem low_bit (c m i : Nat) : (2 ^ c * (2 * m + 1)).testBit i = (decide (c ≤ i) && (2 * m + 1).testBit (i - c)) := by
  rw [Nat.mul_comm, Nat.testBit_mul_two_pow]
theorem low_ones (w : Nat) (h0 : w ≠ 0) (hw : w < 18446744073709551616) : w.testBit (Lib.ctz 64 w) = true ∧ onesTo w (Lib.ctz 64 w) = 0 := by
  obtain ⟨c, m, hc, _, rfl⟩ := low_split w h0 hw
  rw [hc]
  constructor
  · rw [low_bit]; simp [Nat.testBit_zero]
  · have : ∀ n, n ≤ c → onesTo (2 ^ c * (2 * m + 1)) n = 0 := by
      intro n
      induction n with
      | zero => intro _; rfl
      | succ n ih =>
        intro h
        have e : (2 ^ c * (2 * m + 1)).testBit n = false := by
          rw [low_bit]
          have : decide (c ≤ n) = false := by rw [decide_eq_false_iff_not]; omega
          rw [this]; rfl
        simp only [onesTo]
        rw [ih (by omega), e]; rfl
    exact this c (Nat.le_refl _)
theorem low_first (w P : Nat) (hw : w < 18446744073709551616) (hb : w.testBit P = true) (h : onesTo w P = 0) : Lib.ctz 64 w = P := by
  have h0 : w ≠ 0 := by intro e; subst e; simp at hb
  have h1 := low_ones w h0 hw
  exact sel_unique w _ _ h1.1 hb (by omega)
/-- Without the lowest 1. -/
theorem low_cut (w : Nat) (h0 : w ≠ 0) (hw : w < 18446744073709551616) (i : Nat) : (w &&& (w - 1)).testBit i = (w.testBit i && decide (i ≠ Lib.ctz 64 w)) := by
  obtain ⟨c, m, hc, _, rfl⟩ := low_split w h0 hw
  have hp := Nat.two_pow_pos c
  have e : 2 ^ c * (2 * m + 1) - 1 = 2 ^ c * (2 * m) + (2 ^ c - 1) := by rw [Nat.mul_add, Nat.mul_one]; omega
  have hdv : (2 ^ c * (2 * m) + (2 ^ c - 1)) / 2 ^ c = 2 * m := by rw [Nat.mul_add_div hp, Nat.div_eq_of_lt (show 2 ^ c - 1 < 2 ^ c by omega), Nat.add_zero]
  rw [hc, e, Nat.testBit_and, low_bit]
  by_cases h : c ≤ i
  · have h1 : (2 ^ c * (2 * m) + (2 ^ c - 1)).testBit i = (2 * m).testBit (i - c) := by
      obtain ⟨j, rfl⟩ : ∃ j, i = c + j := ⟨i - c, by omega⟩
      rw [show c + j - c = j from by omega, Nat.testBit_eq_decide_div_mod_eq, Nat.testBit_eq_decide_div_mod_eq, Nat.pow_add, ← Nat.div_div_eq_div_mul, hdv]
    rw [h1]
    obtain ⟨j, rfl⟩ : ∃ j, i = c + j := ⟨i - c, by omega⟩
    rw [show c + j - c = j from by omega]
    cases j with
    | zero => simp
    | succ j =>
      have d1 : (2 * m + 1) / 2 = m := by omega
      have d2 : 2 * m / 2 = m := by omega
      rw [Nat.testBit_succ, Nat.testBit_succ, d1, d2]
      have : decide (c + (j + 1) ≠ c) = true := by simp
      rw [this]; simp
  · have : decide (c ≤ i) = false := by rw [decide_eq_false_iff_not]; exact h
    rw [this]; simp
theorem low_on (w P : Nat) (hw : w < 18446744073709551616) (hb : w.testBit P = true) (h : 0 < onesTo w P) : (w &&& (w - 1)).testBit P = true ∧ onesTo (w &&& (w - 1)) P = onesTo w P - 1 ∧ Lib.ctz 64 w < P := by
  have h0 : w ≠ 0 := by intro e; subst e; simp at hb
  have h1 := low_ones w h0 hw
  have hc := low_cut w h0 hw
  have hcP : Lib.ctz 64 w < P := by
    rcases Nat.lt_or_ge (Lib.ctz 64 w) P with h2 | h2
    · exact h2
    · have := onesTo_mono w h2; omega
  generalize Lib.ctz 64 w = c at *
  refine ⟨by rw [hc, hb]; simp; omega, ?_, hcP⟩
  have key : ∀ n, onesTo (w &&& (w - 1)) n = if c < n then onesTo w n - 1 else onesTo w n := by
    intro n
    induction n with
    | zero => simp [onesTo]
    | succ n ih =>
      simp only [onesTo]
      rw [ih, hc]
      by_cases h2 : c < n
      · have h3 := onesTo_step w c n h2 h1.1
        rw [if_pos h2, if_pos (by omega)]
        have : decide (n ≠ c) = true := by simp; omega
        rw [this, Bool.and_true]; omega
      · rw [if_neg h2]
        by_cases h3 : n = c
        · subst h3
          rw [if_pos (by omega), h1.1]; simp
        · rw [if_neg (by omega)]
          have : decide (n ≠ c) = true := by simp; omega
          rw [this, Bool.and_true]
  rw [key, if_pos hcP]

end Go.Proofs.YtgpbpgpolpakjaaGreatDoor.L

/- Plain laws: a word's field, bit by bit. No program in sight. -/


set_option linter.unusedVariables false
set_option linter.unusedSimpArgs false
namespace Go.Proofs.YtgpbpgpolpakjaaGreatDoor.L

end Go.Proofs.YtgpbpgpolpakjaaGreatDoor.L

/- Plain laws: where a row's bits of one kind are; the blocks that a chooser notes. No program in sight. -/



set_option linter.unusedVariables false
set_option linter.unusedSimpArgs false
namespace Go.Proofs.YtgpbpgpolpakjaaGreatDoor.L

/-- How many of a row's first n bits are of one kind. -/
def kc (t : Bool) (bs : List Bool) : Nat → Nat
  | 0 => 0
  | n + 1 => kc t bs n + (decide (n < bs.length) && (bitAt bs n == t)).toNat

theorem kc_le (t : Bool) (bs : List Bool) (n : Nat) : kc t bs n ≤ n := by
  induction n with
  | zero => simp [kc]
  | succ n ih => have := Bool.toNat_le (decide (n < bs.length) && (bitAt bs n == t)); simp only [kc]; omega
theorem kc_mono (t : Bool) (bs : List Bool) {a b : Nat} (h : a ≤ b) : kc t bs a ≤ kc t bs b := by
  induction b with
  | zero => have : a = 0 := by omega
            subst this; exact Nat.le_refl _
  | succ b ih =>
    rcases Nat.lt_or_ge a (b + 1) with h1 | h1
    · have := ih (by omega); simp only [kc]; omega
    · have : a = b + 1 := by omega
      subst this; exact Nat.le_refl _
theorem kc_diff (t : Bool) (bs : List Bool) (a n : Nat) : kc t bs (a + n) ≤ kc t bs a + n := by
  induction n with
  | zero => simp
  | succ n ih => have := Bool.toNat_le (decide (a + n < bs.length) && (bitAt bs (a + n) == t)); rw [← Nat.add_assoc]; simp only [kc]; omega
theorem kc_ge (t : Bool) (bs : List Bool) (n : Nat) (h : bs.length ≤ n) : kc t bs n = kc t bs bs.length := by
  induction n with
  | zero => have : bs.length = 0 := by omega
            rw [this]
  | succ n ih =>
    rcases Nat.lt_or_ge n bs.length with h1 | h1
    · have : bs.length = n + 1 := by omega
      rw [this]
    · simp only [kc]
      have : decide (n < bs.length) = false := by simp; omega
      rw [this, ih h1]; rfl
theorem kc_true (bs : List Bool) (n : Nat) : kc true bs n = cnt bs n := by
  induction n with
  | zero => rfl
  | succ n ih =>
    simp only [kc, cnt, ih]
    by_cases h : n < bs.length
    · have : decide (n < bs.length) = true := by simpa using h
      rw [this, Bool.true_and]; cases bitAt bs n <;> rfl
    · have : decide (n < bs.length) = false := by simpa using h
      rw [this, bitAt_ge bs n (by omega)]; rfl
theorem kc_false (bs : List Bool) (n : Nat) (hn : n ≤ bs.length) : kc false bs n = n - cnt bs n := by
  induction n with
  | zero => rfl
  | succ n ih =>
    have hc := cnt_le bs n
    simp only [kc, cnt, ih (by omega)]
    have : decide (n < bs.length) = true := by simp; omega
    rw [this, Bool.true_and]
    cases bitAt bs n <;> simp <;> omega
/-- What ranks tell. -/
theorem kc_one (bs : List Bool) (i : Nat) : cnt bs (held bs.length (i : Int)) = kc true bs i := by
  rw [kc_true]
  rcases Nat.lt_or_ge bs.length i with h | h
  · rw [show held bs.length (i : Int) = bs.length from by unfold held; omega, cnt_ge bs i (by omega)]
  · rw [held_nat _ _ h]
theorem kc_zero (bs : List Bool) (i : Nat) : held bs.length (i : Int) - cnt bs (held bs.length (i : Int)) = kc false bs i := by
  rcases Nat.lt_or_ge bs.length i with h | h
  · rw [show held bs.length (i : Int) = bs.length from by unfold held; omega, kc_ge false bs i (by omega), kc_false bs _ (Nat.le_refl _)]
  · rw [held_nat _ _ h, kc_false bs _ h]
theorem kc_both (bs : List Bool) : kc true bs bs.length + kc false bs bs.length = bs.length := by
  rw [kc_true, kc_false bs _ (Nat.le_refl _)]
  have := cnt_le bs bs.length
  omega

/-- The bits of one kind in a row's word. -/
def KWord (t : Bool) (bs : List Bool) (q v : Nat) : Prop := ∀ j, j < 64 → v.testBit j = (decide (64 * q + j < bs.length) && (bitAt bs (64 * q + j) == t))
theorem kword_cnt {t : Bool} {bs : List Bool} {q v : Nat} (h : KWord t bs q v) (n : Nat) (hn : n ≤ 64) : kc t bs (64 * q + n) = kc t bs (64 * q) + onesTo v n := by
  induction n with
  | zero => rfl
  | succ n ih =>
    have e := ih (by omega)
    rw [← Nat.add_assoc]
    simp only [kc, onesTo]
    rw [e, h n (by omega)]; omega
theorem kword_one (bs : List Bool) (q : Nat) : KWord true bs q (wordAt bs q) := fun j hj => by
  rw [wordAt_testBit]
  have : decide (j < 64) = true := by simpa using hj
  rw [this, Bool.true_and]
  by_cases h : 64 * q + j < bs.length
  · have : decide (64 * q + j < bs.length) = true := by simpa using h
    rw [this, Bool.true_and]; cases bitAt bs (64 * q + j) <;> rfl
  · rw [bitAt_ge bs _ (by omega)]; simp
/-- The complement of a word. -/
def comp (v : Nat) : Nat := 18446744073709551615 - v
theorem p64 : (2 : Nat) ^ 64 = 18446744073709551616 := by decide
theorem comp_bit (v j : Nat) (hv : v < 18446744073709551616) (hj : j < 64) : (comp v).testBit j = !v.testBit j := by
  have hp := p64
  have e : (18446744073709551615 : Nat) - v = 2 ^ 64 - (v + 1) := by omega
  unfold comp
  rw [e, Nat.testBit_two_pow_sub_succ (by omega)]
  have : decide (j < 64) = true := by simpa using hj
  rw [this, Bool.true_and]
theorem comp_lt (v : Nat) : comp v < 18446744073709551616 := by unfold comp; omega
theorem kword_zero (bs : List Bool) (q : Nat) (hq : 64 * q < bs.length) : KWord false bs q (fieldN (comp (wordAt bs q)) 0 ((bs.length : Int) - ((64 * q : Nat) : Int))) := fun j hj => by
  have hw := wordAt_lt bs q
  unfold fieldN
  rw [if_neg (by omega), if_neg (by omega), Nat.testBit_mod_two_pow, Nat.testBit_div_two_pow, Int.toNat_zero, Nat.add_zero, comp_bit _ _ hw hj, wordAt_testBit]
  have h64 : decide (j < 64) = true := by simpa using hj
  rw [h64, Bool.true_and]
  have hd : decide (j < clampN ((bs.length : Int) - ((64 * q : Nat) : Int))) = decide (64 * q + j < bs.length) := by
    rw [Bool.eq_iff_iff, decide_eq_true_eq, decide_eq_true_eq]; unfold clampN; omega
  rw [hd]
  cases bitAt bs (64 * q + j) <;> simp

/-- The place of the k-th bit of a kind is the one that is of the kind, with k ahead of it. -/
theorem kc_step (t : Bool) (bs : List Bool) (p q : Nat) (h : p < q) (hp : p < bs.length) (hb : bitAt bs p = t) : kc t bs p < kc t bs q := by
  have h1 : kc t bs (p + 1) = kc t bs p + 1 := by
    simp only [kc]
    have : decide (p < bs.length) = true := by simpa using hp
    rw [this, hb]; simp
  have h2 := kc_mono t bs (show p + 1 ≤ q by omega)
  omega
/-- What a chooser notes of a kind, of a row's first p bits. -/
def Half (t : Bool) (bs : List Bool) (p : Nat) (l : List Nat) : Prop :=
  l.length = (kc t bs p + 255) / 256 ∧ ∀ j x, l[j]? = some x → 512 * x < bs.length ∧ kc t bs (512 * x) ≤ 256 * j ∧ 256 * j < kc t bs (512 * (x + 1))
theorem half_nil (t : Bool) (bs : List Bool) : Half t bs 0 [] := ⟨by simp [kc], fun j x h => by simp at h⟩
theorem half_keep {t : Bool} {bs : List Bool} {q : Nat} {l : List Nat} (h : Half t bs (64 * q) l) (hc : ¬ (kc t bs (64 * q) + 255) / 256 * 256 < kc t bs (64 * q + 64)) : Half t bs (64 * q + 64) l := by
  have h1 := kc_mono t bs (show 64 * q ≤ 64 * q + 64 by omega)
  exact ⟨by rw [h.1]; omega, h.2⟩
theorem half_note {t : Bool} {bs : List Bool} {q : Nat} {l : List Nat} (h : Half t bs (64 * q) l) (hq : 64 * q < bs.length) (hc : (kc t bs (64 * q) + 255) / 256 * 256 < kc t bs (64 * q + 64)) : Half t bs (64 * q + 64) (l ++ [64 * q / 512]) := by
  have h1 := kc_diff t bs (64 * q) 64
  refine ⟨by rw [List.length_append, h.1]; simp; omega, fun j x hx => ?_⟩
  rcases Nat.lt_or_ge j l.length with hj | hj
  · rw [List.getElem?_append_left hj] at hx; exact h.2 j x hx
  · rw [List.getElem?_append_right hj] at hx
    have e : j - l.length = 0 := by
      rcases Nat.eq_zero_or_pos (j - l.length) with h0 | h0
      · exact h0
      · rw [List.getElem?_eq_none (by simp; omega)] at hx; cases hx
    rw [e] at hx
    simp at hx
    subst hx
    have hl := h.1
    have m1 := kc_mono t bs (show 512 * (64 * q / 512) ≤ 64 * q by omega)
    have m2 := kc_mono t bs (show 64 * q + 64 ≤ 512 * (64 * q / 512 + 1) by omega)
    have hj2 : j = (kc t bs (64 * q) + 255) / 256 := by omega
    rw [hj2]
    exact ⟨by omega, by omega, by omega⟩
theorem half_next {t : Bool} {bs : List Bool} {p q o : Nat} {l : List Nat} (h : Half t bs p l) (hp : p = 64 * q) (hq : p < bs.length) (ho : kc t bs (p + 64) = kc t bs p + o) :
    Half t bs (p + 64) (if (kc t bs p + 255) / 256 * 256 < kc t bs p + o then l ++ [p / 512] else l) := by
  subst hp
  rw [← ho]
  by_cases hc : (kc t bs (64 * q) + 255) / 256 * 256 < kc t bs (64 * q + 64)
  · rw [if_pos hc]; exact half_note h hq hc
  · rw [if_neg hc]; exact half_keep h hc
theorem half_end {t : Bool} {bs : List Bool} {p : Nat} {l : List Nat} (h : Half t bs p l) (hp : bs.length ≤ p) : Half t bs bs.length l := ⟨by rw [h.1, kc_ge t bs p hp], h.2⟩

/-- Where a binary search starts, and ends. -/
theorem half_low {t : Bool} {bs : List Bool} {l : List Nat} (h : Half t bs bs.length l) (k : Nat) (hk : k < kc t bs bs.length) : ∃ x, l[k / 256]? = some x ∧ 512 * x < bs.length ∧ kc t bs (512 * x) ≤ k := by
  have hl := h.1
  have hi : k / 256 < l.length := by omega
  obtain ⟨x, hx⟩ : ∃ x, l[k / 256]? = some x := ⟨_, List.getElem?_eq_getElem hi⟩
  have := h.2 _ _ hx
  exact ⟨x, hx, this.1, by omega⟩
theorem half_high {t : Bool} {bs : List Bool} {l : List Nat} (h : Half t bs bs.length l) (k x : Nat) (hx : l[k / 256 + 1]? = some x) : k < kc t bs (512 * (x + 1)) ∧ 512 * x < bs.length := by
  have := h.2 _ _ hx
  omega

/-- A bit's word, and its place there. -/
theorem in_word {t : Bool} {bs : List Bool} {p k q : Nat} (hp : p < bs.length) (hb : bitAt bs p = t) (hk : kc t bs p = k) (h1 : kc t bs (64 * q) ≤ k) (h2 : k < kc t bs (64 * q + 64)) : 64 * q ≤ p ∧ p < 64 * q + 64 := by
  constructor
  · rcases Nat.lt_or_ge p (64 * q) with h | h
    · have := kc_step t bs p (64 * q) h hp hb; omega
    · exact h
  · rcases Nat.lt_or_ge p (64 * q + 64) with h | h
    · exact h
    · have := kc_mono t bs h; omega
theorem sel_word {t : Bool} {bs : List Bool} {q j v : Nat} (hv : ∀ i, i ≤ j → v.testBit i = (bitAt bs (64 * q + i) == t)) (hj : j < 64) (hp : 64 * q + j < bs.length) (hb : bitAt bs (64 * q + j) = t) : selN v ((kc t bs (64 * q + j) - kc t bs (64 * q) : Nat) : Int) = j := by
  have key : ∀ n, n ≤ j → kc t bs (64 * q + n) = kc t bs (64 * q) + onesTo v n := by
    intro n
    induction n with
    | zero => intro _; rfl
    | succ n ih =>
      intro hn
      rw [← Nat.add_assoc]
      simp only [kc, onesTo]
      have : decide (64 * q + n < bs.length) = true := by simp; omega
      rw [ih (by omega), hv n (by omega), this, Bool.true_and]; omega
  refine selN_eq v j _ (by rw [hv j (Nat.le_refl _), hb]; simp) ?_ hj
  have := key j (Nat.le_refl _)
  omega
theorem sel_one (bs : List Bool) (q j : Nat) (hj : j < 64) (hp : 64 * q + j < bs.length) (hb : bitAt bs (64 * q + j) = true) : selN (wordAt bs q) ((kc true bs (64 * q + j) - kc true bs (64 * q) : Nat) : Int) = j :=
  sel_word (fun i hi => by rw [kword_one bs q i (by omega)]; have : decide (64 * q + i < bs.length) = true := by simp; omega
                           rw [this, Bool.true_and]) hj hp hb
theorem sel_zero (bs : List Bool) (q j : Nat) (hj : j < 64) (hp : 64 * q + j < bs.length) (hb : bitAt bs (64 * q + j) = false) : selN (comp (wordAt bs q)) ((kc false bs (64 * q + j) - kc false bs (64 * q) : Nat) : Int) = j :=
  sel_word (fun i hi => by rw [comp_bit _ _ (wordAt_lt bs q) (by omega), wordAt_testBit]; have : decide (i < 64) = true := by simp; omega
                           rw [this, Bool.true_and]; cases bitAt bs (64 * q + i) <;> rfl) hj hp hb

end Go.Proofs.YtgpbpgpolpakjaaGreatDoor.L

/- Plain laws: the place of the k-th bit of a kind, as the reference looks for it. No program in sight. -/

set_option linter.unusedVariables false
set_option linter.unusedSimpArgs false
namespace Go.Proofs.YtgpbpgpolpakjaaGreatDoor.L

/-- The first of n places that is of the kind, with k ahead of it; -1. -/
def plTo (t : Bool) (bs : List Bool) (k : Int) : Nat → Int
  | 0 => -1
  | n + 1 => if 0 ≤ plTo t bs k n then plTo t bs k n else if n < bs.length ∧ bitAt bs n = t ∧ (kc t bs n : Int) = k then n else -1
def pl (t : Bool) (bs : List Bool) (k : Int) : Int := plTo t bs k bs.length
end Go.Proofs.YtgpbpgpolpakjaaGreatDoor.L

/- Plain laws of numbers that rise: the low and the high row, where a number's 1 and a part's 0 are. No program in sight. -/

set_option linter.unusedVariables false
set_option linter.unusedSimpArgs false
namespace Go.Proofs.YtgpbpgpolpakjaaGreatDoor.L

/-- How many of a kind there are, as lists tell it. -/
theorem kc_count (t : Bool) (bs : List Bool) : ∀ n, kc t bs n = (bs.take n).count t
  | 0 => by simp [kc]
  | n + 1 => by
    simp only [kc]
    rw [kc_count t bs n]
    by_cases h : n < bs.length
    · have hg := bitAt_get bs n h
      rw [List.getElem?_eq_getElem h] at hg
      injection hg with hg
      rw [List.take_succ_eq_append_getElem h, List.count_append, hg]
      have hd : decide (n < bs.length) = true := decide_eq_true h
      rw [hd, Bool.true_and]
      cases bitAt bs n <;> cases t <;> simp
    · have hd : decide (n < bs.length) = false := decide_eq_false h
      rw [hd, List.take_of_length_le (show bs.length ≤ n by omega), List.take_of_length_le (show bs.length ≤ n + 1 by omega)]; simp

/-- A bit in the midst: what it is, and how many of a kind stand ahead. -/
theorem mid_bit (p : List Bool) (b : Bool) (r : List Bool) : bitAt (p ++ b :: r) p.length = b ∧ p.length < (p ++ b :: r).length ∧ ∀ t, kc t (p ++ b :: r) p.length = p.count t := by
  refine ⟨?_, by simp, fun t => ?_⟩
  · unfold bitAt
    rw [List.getElem?_append_right (Nat.le_refl _), Nat.sub_self]; rfl
  · rw [kc_count, List.take_left]

/-- The high row of some numbers, behind a part. -/
def hiL (w : Nat) : Nat → List Nat → List Bool
  | _, [] => []
  | part, x :: l => List.replicate (x / 2 ^ w - part) false ++ true :: hiL w (x / 2 ^ w) l
def lastP (w : Nat) : Nat → List Nat → Nat
  | part, [] => part
  | _, x :: l => lastP w (x / 2 ^ w) l
/-- The parts rise. -/
def UpL (w : Nat) : Nat → List Nat → Prop
  | _, [] => True
  | part, x :: l => part ≤ x / 2 ^ w ∧ UpL w (x / 2 ^ w) l
theorem hiL_append (w : Nat) : ∀ (l m : List Nat) (p : Nat), hiL w p (l ++ m) = hiL w p l ++ hiL w (lastP w p l) m
  | [], m, p => rfl
  | x :: l, m, p => by
    simp only [List.cons_append, hiL, lastP]
    rw [hiL_append w l m]
    simp
theorem lastP_append (w : Nat) : ∀ (l m : List Nat) (p : Nat), lastP w p (l ++ m) = lastP w (lastP w p l) m
  | [], m, p => rfl
  | x :: l, m, p => by simp only [List.cons_append, lastP]; exact lastP_append w l m _
theorem UpL_append (w : Nat) : ∀ (l m : List Nat) (p : Nat), UpL w p (l ++ m) ↔ UpL w p l ∧ UpL w (lastP w p l) m
  | [], m, p => by simp [UpL, lastP]
  | x :: l, m, p => by
    simp only [List.cons_append, UpL, lastP]
    rw [UpL_append w l m]
    constructor
    · rintro ⟨a, b, c⟩; exact ⟨⟨a, b⟩, c⟩
    · rintro ⟨⟨a, b⟩, c⟩; exact ⟨a, b, c⟩
theorem UpL_le (w : Nat) : ∀ (l : List Nat) (p : Nat), UpL w p l → p ≤ lastP w p l
  | [], p, _ => Nat.le_refl _
  | x :: l, p, h => Nat.le_trans h.1 (UpL_le w l _ h.2)
theorem hiL_count (w : Nat) : ∀ (l : List Nat) (p : Nat), UpL w p l → (hiL w p l).count true = l.length ∧ (hiL w p l).count false = lastP w p l - p
  | [], p, _ => by simp [hiL, lastP]
  | x :: l, p, h => by
    obtain ⟨h1, h2⟩ := hiL_count w l (x / 2 ^ w) h.2
    have hle := UpL_le w l _ h.2
    have h0 := h.1
    constructor
    · simp only [hiL, List.count_append, List.count_cons, h1, List.count_replicate, List.length_cons]; simp
    · simp only [hiL, List.count_append, List.count_cons, h2, List.count_replicate, lastP]; simp; omega
theorem count_both (bs : List Bool) : bs.count true + bs.count false = bs.length := by
  induction bs with
  | nil => rfl
  | cons b bs ih => cases b <;> simp [List.count_cons] <;> omega
theorem hiL_length (w : Nat) (l : List Nat) (p : Nat) (h : UpL w p l) : (hiL w p l).length = l.length + (lastP w p l - p) := by
  rw [← count_both, (hiL_count w l p h).1, (hiL_count w l p h).2]

/-- The high row, the low row. top: how many 0s there are in all. -/
def high (w top : Nat) (l : List Nat) : List Bool := hiL w 0 l ++ List.replicate (top - lastP w 0 l) false
def lows (w : Nat) (l : List Nat) : List Bool := l.flatMap fun x => bitsOf (x % 2 ^ w) w
theorem high_length (w top : Nat) (l : List Nat) (h : UpL w 0 l) (ht : lastP w 0 l ≤ top) : (high w top l).length = l.length + top := by
  unfold high; rw [List.length_append, hiL_length w l 0 h, List.length_replicate]; omega
theorem lows_length (w : Nat) : ∀ l : List Nat, (lows w l).length = l.length * w
  | [] => by simp [lows]
  | x :: l => by
    have := lows_length w l
    unfold lows at *
    rw [List.flatMap_cons, List.length_append, bitsOf_length, this, List.length_cons, Nat.add_mul]; omega
theorem lows_snoc (w : Nat) (l : List Nat) (x : Nat) : lows w (l ++ [x]) = lows w l ++ bitsOf (x % 2 ^ w) w := by unfold lows; rw [List.flatMap_append]; simp
theorem lows_split (w : Nat) (l m : List Nat) : lows w (l ++ m) = lows w l ++ lows w m := by unfold lows; rw [List.flatMap_append]
/-- A number's low bits. -/
theorem low_get (w : Nat) (l1 l2 : List Nat) (x : Nat) : fld (lows w (l1 ++ x :: l2)) (l1.length * w) w = x % 2 ^ w := by
  have e : lows w (l1 ++ x :: l2) = lows w l1 ++ (bitsOf (x % 2 ^ w) w ++ lows w l2) := by rw [lows_split]; rfl
  apply Nat.eq_of_testBit_eq
  intro j
  rw [fld_testBit, e, ← lows_length, bitAt_append, if_neg (by omega), Nat.add_sub_cancel_left, bitAt_append, bitsOf_length]
  by_cases hj : j < w
  · rw [if_pos hj, bitAt_bitsOf]
    have hd : decide (j < w) = true := decide_eq_true hj
    rw [hd, Bool.true_and, Bool.true_and]
  · have hd : decide (j < w) = false := decide_eq_false hj
    rw [hd, Bool.false_and, testBit_lt (Nat.mod_lt x (Nat.two_pow_pos w)) (by omega)]

/-- A number's 1. -/
theorem one_at {w top : Nat} {l1 l2 : List Nat} {x : Nat} (h : UpL w 0 (l1 ++ x :: l2)) : bitAt (high w top (l1 ++ x :: l2)) (l1.length + x / 2 ^ w) = true ∧ l1.length + x / 2 ^ w < (high w top (l1 ++ x :: l2)).length ∧ kc true (high w top (l1 ++ x :: l2)) (l1.length + x / 2 ^ w) = l1.length := by
  obtain ⟨h1, h2⟩ := (UpL_append w l1 (x :: l2) 0).1 h
  have hx := h2.1
  have e : high w top (l1 ++ x :: l2) = (hiL w 0 l1 ++ List.replicate (x / 2 ^ w - lastP w 0 l1) false) ++ true :: (hiL w (x / 2 ^ w) l2 ++ List.replicate (top - lastP w 0 (l1 ++ x :: l2)) false) := by
    unfold high; rw [hiL_append]; simp [hiL]
  have hl : (hiL w 0 l1 ++ List.replicate (x / 2 ^ w - lastP w 0 l1) false).length = l1.length + x / 2 ^ w := by
    rw [List.length_append, hiL_length w l1 0 h1, List.length_replicate]; omega
  have hm := mid_bit (hiL w 0 l1 ++ List.replicate (x / 2 ^ w - lastP w 0 l1) false) true (hiL w (x / 2 ^ w) l2 ++ List.replicate (top - lastP w 0 (l1 ++ x :: l2)) false)
  rw [hl, ← e] at hm
  refine ⟨hm.1, hm.2.1, ?_⟩
  rw [hm.2.2 true, List.count_append, (hiL_count w l1 0 h1).1, List.count_replicate]; simp
/-- A part's 0: behind the numbers of parts that are no greater. -/
theorem zero_at {w top : Nat} {l1 l2 : List Nat} {p : Nat} (h : UpL w 0 (l1 ++ l2)) (h1 : lastP w 0 l1 ≤ p) (h2 : ∀ x ∈ l2.head?, p < x / 2 ^ w) (h3 : p < top) : bitAt (high w top (l1 ++ l2)) (l1.length + p) = false ∧ l1.length + p < (high w top (l1 ++ l2)).length ∧ kc false (high w top (l1 ++ l2)) (l1.length + p) = p := by
  obtain ⟨u1, u2⟩ := (UpL_append w l1 l2 0).1 h
  obtain ⟨R, hR⟩ : ∃ R, high w top (l1 ++ l2) = (hiL w 0 l1 ++ List.replicate (p - lastP w 0 l1) false) ++ false :: R := by
    have hrep : ∀ m, p - lastP w 0 l1 < m → ∃ k, List.replicate m false = List.replicate (p - lastP w 0 l1) false ++ false :: List.replicate k false := fun m hm =>
      ⟨m - (p - lastP w 0 l1) - 1, by rw [← List.replicate_succ, List.replicate_append_replicate]; congr 1; omega⟩
    unfold high
    rw [hiL_append]
    cases l2 with
    | nil =>
      obtain ⟨k, hk⟩ := hrep (top - lastP w 0 l1) (by omega)
      refine ⟨List.replicate k false, ?_⟩
      rw [List.append_nil, hk]; simp [hiL]
    | cons x l2 =>
      have hx := h2 x rfl
      obtain ⟨k, hk⟩ := hrep (x / 2 ^ w - lastP w 0 l1) (by omega)
      refine ⟨List.replicate k false ++ true :: hiL w (x / 2 ^ w) l2 ++ List.replicate (top - lastP w 0 (l1 ++ x :: l2)) false, ?_⟩
      simp only [hiL]
      rw [hk]; simp
  have hl : (hiL w 0 l1 ++ List.replicate (p - lastP w 0 l1) false).length = l1.length + p := by
    rw [List.length_append, hiL_length w l1 0 u1, List.length_replicate]; omega
  have hm := mid_bit (hiL w 0 l1 ++ List.replicate (p - lastP w 0 l1) false) false R
  rw [hl, ← hR] at hm
  refine ⟨hm.1, hm.2.1, ?_⟩
  rw [hm.2.2 false, List.count_append, (hiL_count w l1 0 u1).2, List.count_replicate]; simp; omega

/-- Numbers that rise. -/
def Ris (l : List Nat) : Prop := l.Pairwise (· ≤ ·)
theorem Ris.le {l : List Nat} (h : Ris l) {i j : Nat} (hij : i ≤ j) (hj : j < l.length) : l[i]'(by omega) ≤ l[j] := by
  rcases Nat.eq_or_lt_of_le hij with e | e
  · subst e; exact Nat.le_refl _
  · exact List.pairwise_iff_getElem.1 h i j (by omega) hj e
theorem div_mono (w : Nat) {x y : Nat} (h : x ≤ y) : x / 2 ^ w ≤ y / 2 ^ w := Nat.div_le_div_right h
theorem Ris.up (w : Nat) : ∀ (l : List Nat) (p : Nat), Ris l → (∀ x ∈ l, p ≤ x / 2 ^ w) → UpL w p l
  | [], _, _, _ => trivial
  | x :: l, p, h, hp => by
    have h' := List.pairwise_cons.1 h
    exact ⟨hp x (List.mem_cons_self ..), Ris.up w l _ h'.2 (fun y hy => div_mono w (h'.1 y hy))⟩
theorem lastP_le (w m : Nat) : ∀ (l : List Nat) (p : Nat), p ≤ m → (∀ x ∈ l, x / 2 ^ w ≤ m) → lastP w p l ≤ m
  | [], p, h, _ => h
  | x :: l, p, _, hl => lastP_le w m l _ (hl x (List.mem_cons_self ..)) (fun y hy => hl y (List.mem_cons_of_mem _ hy))

/-- How many are less. -/
def cl (l : List Nat) (x : Nat) : Nat := l.countP fun y => decide (y < x)
theorem cl_le (l : List Nat) (x : Nat) : cl l x ≤ l.length := List.countP_le_length
theorem cl_split {l1 l2 : List Nat} {x : Nat} (h1 : ∀ y ∈ l1, y < x) (h2 : ∀ y ∈ l2, x ≤ y) : cl (l1 ++ l2) x = l1.length := by
  unfold cl
  rw [List.countP_append, List.countP_eq_length.2 (fun y hy => decide_eq_true (h1 y hy)), List.countP_eq_zero.2 (fun y hy => by simp; exact h2 y hy), Nat.add_zero]
/-- The place that parts the lesser ones from the others. -/
theorem cl_unique {l : List Nat} (h : Ris l) {x i : Nat} (hi : i ≤ l.length) (h1 : ∀ j (hj : j < i), l[j]'(by omega) < x) (h2 : ∀ hi' : i < l.length, x ≤ l[i]) : cl l x = i := by
  have e : l = l.take i ++ l.drop i := (List.take_append_drop i l).symm
  rw [e, cl_split (l1 := l.take i) (l2 := l.drop i) ?_ ?_, List.length_take]
  · omega
  · intro y hy
    obtain ⟨j, hj, rfl⟩ := List.mem_iff_getElem.1 hy
    rw [List.length_take] at hj
    rw [List.getElem_take]
    exact h1 j (by omega)
  · intro y hy
    obtain ⟨j, hj, rfl⟩ := List.mem_iff_getElem.1 hy
    rw [List.length_drop] at hj
    rw [List.getElem_drop]
    exact Nat.le_trans (h2 (by omega)) (h.le (by omega) (by omega))
theorem cl_lt {l : List Nat} (h : Ris l) {x j : Nat} (hj : j < l.length) : l[j] < x ↔ j < cl l x := by
  -- the lesser ones stand ahead
  have key : ∀ (l : List Nat), Ris l → ∀ j (hj : j < l.length), l[j] < x ↔ j < cl l x := by
    intro l
    induction l with
    | nil => intro _ j hj; simp at hj
    | cons a l ih =>
      intro h j hj
      have h' := List.pairwise_cons.1 h
      unfold cl
      rw [List.countP_cons]
      by_cases ha : a < x
      · rw [if_pos (by simpa using ha)]
        cases j with
        | zero => simp [ha]
        | succ j =>
          have := ih h'.2 j (by simpa using hj)
          unfold cl at this
          simp only [List.getElem_cons_succ]
          omega
      · rw [if_neg (by simpa using ha)]
        have h0 : List.countP (fun y => decide (y < x)) l = 0 := List.countP_eq_zero.2 (fun y hy => by have := h'.1 y hy; simp; omega)
        rw [h0]
        cases j with
        | zero => simp; omega
        | succ j =>
          have := h'.1 _ (List.getElem_mem (show j < l.length by simpa using hj))
          simp only [List.getElem_cons_succ]
          omega
  exact key l h j hj
theorem part_lt (w x p : Nat) : x / 2 ^ w < p ↔ x < p * 2 ^ w := Nat.div_lt_iff_lt_mul (Nat.two_pow_pos w)

end Go.Proofs.YtgpbpgpolpakjaaGreatDoor.L

/- Plain laws: numbers that rise: the numbers of a high row and a low row. -/


set_option linter.unusedVariables false
set_option linter.unusedSimpArgs false
namespace Go.Proofs.YtgpbpgpolpakjaaGreatDoor
namespace L

/-- The numbers of a high row, behind a part, the low ones from a number on. -/
def gl (W : Nat) (lo : List Bool) : Nat → Nat → List Bool → List Nat
  | _, _, [] => []
  | k, p, false :: h => gl W lo k (p + 1) h
  | k, p, true :: h => (p * 2 ^ W + fld lo (k * W) W) :: gl W lo (k + 1) p h
def seqB (W T : Nat) (l : List Nat) (B : Nat) : List Bool := bitsOf l.length 24 ++ (bitsOf B 41 ++ (lows W l ++ high W T l))
theorem seqB_length (W T : Nat) (l : List Nat) (B : Nat) (h : UpL W 0 l) (ht : lastP W 0 l ≤ T) : (seqB W T l B).length = 65 + l.length * W + (l.length + T) := by
  unfold seqB
  rw [List.length_append, List.length_append, List.length_append, bitsOf_length, bitsOf_length, lows_length, high_length W T l h ht]; omega
end L
end Go.Proofs.YtgpbpgpolpakjaaGreatDoor

/- Plain laws: a tree over stretches of a row: reaches, where an excess may be met, the places of nodes. No program in sight. -/

set_option linter.unusedVariables false
set_option linter.unusedSimpArgs false
namespace Go.Proofs.YtgpbpgpolpakjaaGreatDoor.L

theorem ex_step (f : Nat → Bool) (n : Nat) : ex f (n + 1) = ex f n + 1 ∨ ex f (n + 1) = ex f n - 1 := by
  simp only [ex]; cases f n <;> simp [sgn]; omega
theorem lo_le_ex (f : Nat → Bool) (n k : Nat) (h0 : 0 < k) (h : k ≤ n) : lo f n ≤ ex f k := (lo_ge f (lo f n) n (by omega)).1 (Int.le_refl _) k h0 h
theorem ex_le_hi (f : Nat → Bool) (n k : Nat) (h0 : 0 < k) (h : k ≤ n) : ex f k ≤ hi f n := (hi_le f (hi f n) n (by omega)).1 (Int.le_refl _) k h0 h
/-- Each number between the least and the greatest one is met. -/
theorem fnd_between (f : Nat → Bool) (d : Int) : ∀ n, 0 < n → (fnd f d n ≠ 0 ↔ lo f n ≤ d ∧ d ≤ hi f n)
  | 0, h => by omega
  | 1, _ => by
    simp only [fnd, lo, hi]
    by_cases h : ex f 1 = d
    · simp [h]
    · simp [h]; omega
  | n + 2, _ => by
    have ih := fnd_between f d (n + 1) (by omega)
    have h1 := lo_le_ex f (n + 1) (n + 1) (by omega) (by omega)
    have h2 := ex_le_hi f (n + 1) (n + 1) (by omega) (by omega)
    have h3 := ex_step f (n + 1)
    have e1 : lo f (n + 2) = min (lo f (n + 1)) (ex f (n + 2)) := by rw [show n + 2 = (n + 1) + 1 from rfl]; simp only [lo]; rw [if_neg (by omega)]
    have e2 : hi f (n + 2) = max (hi f (n + 1)) (ex f (n + 2)) := by rw [show n + 2 = (n + 1) + 1 from rfl]; simp only [hi]; rw [if_neg (by omega)]
    have e3 : fnd f d (n + 2) = if fnd f d (n + 1) ≠ 0 then fnd f d (n + 1) else if ex f (n + 2) = d then n + 2 else 0 := rfl
    rw [e1, e2, e3]
    rw [show n + 1 + 1 = n + 2 from rfl] at h3
    by_cases h : fnd f d (n + 1) = 0
    · have ih' : ¬ (lo f (n + 1) ≤ d ∧ d ≤ hi f (n + 1)) := fun q => ih.2 q h
      rw [if_neg (by simp [h])]
      by_cases h4 : ex f (n + 2) = d
      · rw [if_pos h4]; simp; omega
      · rw [if_neg h4]; simp; omega
    · have := ih.1 h
      rw [if_pos h]
      constructor
      · intro _; omega
      · intro _; exact h

theorem sh_sh (f : Nat → Bool) (a b : Nat) : sh (sh f a) b = sh f (a + b) := by unfold sh; funext i; rw [Nat.add_assoc]
/-- The excess of the bits from a to b. -/
def eb (f : Nat → Bool) (a b : Nat) : Int := ex (sh f a) (b - a)
theorem eb_self (f : Nat → Bool) (a : Nat) : eb f a a = 0 := by unfold eb; rw [Nat.sub_self]; rfl
theorem eb_add (f : Nat → Bool) (a m b : Nat) (h1 : a ≤ m) (h2 : m ≤ b) : eb f a m + eb f m b = eb f a b := by
  unfold eb
  rw [show b - a = (m - a) + (b - m) from by omega, ex_add, sh_sh, show a + (m - a) = m from by omega]
theorem eb_abs (f : Nat → Bool) (a b : Nat) : -((b - a : Nat) : Int) ≤ eb f a b ∧ eb f a b ≤ (b - a : Nat) := ex_abs _ _

/-- A reach: of no beginnings none. -/
abbrev Rc := Option (Int × Int)
def mv (r : Rc) (e : Int) : Rc := r.map (fun p => (p.1 + e, p.2 + e))
def bo : Rc → Rc → Rc
  | none, r => r
  | r, none => r
  | some p, some q => some (min p.1 q.1, max p.2 q.2)
def inr : Rc → Int → Bool
  | none, _ => false
  | some p, d => decide (p.1 ≤ d) && decide (d ≤ p.2)
/-- The reach of beginnings, but for the empty one. -/
def rf (f : Nat → Bool) (a b : Nat) : Rc := if b ≤ a then none else some (lo (sh f a) (b - a), hi (sh f a) (b - a))
/-- The reach of beginnings, but for the whole. -/
def rb (f : Nat → Bool) (a b : Nat) : Rc := if b ≤ a then none else some (min 0 (lo (sh f a) (b - 1 - a)), max 0 (hi (sh f a) (b - 1 - a)))

theorem rf_join (f : Nat → Bool) (a m b : Nat) (h1 : a ≤ m) (h2 : m ≤ b) : bo (rf f a m) (mv (rf f m b) (eb f a m)) = rf f a b := by
  unfold rf
  rcases Nat.eq_or_lt_of_le h1 with e1 | e1
  · subst e1
    rw [if_pos (Nat.le_refl _), eb_self]
    split
    · rfl
    · simp [mv, bo]
  · rw [if_neg (by omega)]
    rcases Nat.eq_or_lt_of_le h2 with e2 | e2
    · subst e2
      rw [if_pos (Nat.le_refl _), if_neg (by omega)]; rfl
    · rw [if_neg (by omega), if_neg (by omega)]
      have l1 := lo_add (sh f a) (m - a) (b - m) (by omega) (by omega)
      have l2 := hi_add (sh f a) (m - a) (b - m) (by omega) (by omega)
      rw [sh_sh, show a + (m - a) = m from by omega, show m - a + (b - m) = b - a from by omega] at l1 l2
      rw [l1, l2]; rfl

/-- The least one, and the greatest one, with the empty beginning. -/
def low (f : Nat → Bool) (n : Nat) : Int := min 0 (lo f n)
def hgh (f : Nat → Bool) (n : Nat) : Int := max 0 (hi f n)
theorem low_ge (f : Nat → Bool) (c : Int) (n : Nat) : c ≤ low f n ↔ ∀ k, k ≤ n → c ≤ ex f k := by
  unfold low
  rcases Nat.eq_zero_or_pos n with h | h
  · subst h
    constructor
    · intro h k hk; obtain rfl : k = 0 := by omega
      simp only [ex]; omega
    · intro h; have := h 0 (Nat.le_refl _); simp only [ex, lo] at *; omega
  · have h1 := lo_ge f c n h
    constructor
    · intro h2 k hk
      rcases Nat.eq_zero_or_pos k with h3 | h3
      · subst h3; simp only [ex]; omega
      · exact h1.1 (by omega) k h3 hk
    · intro h2
      have h3 := h1.2 (fun k _ hk => h2 k hk)
      have h4 := h2 0 (by omega)
      simp only [ex] at h4; omega
theorem hgh_le (f : Nat → Bool) (c : Int) (n : Nat) : hgh f n ≤ c ↔ ∀ k, k ≤ n → ex f k ≤ c := by
  unfold hgh
  rcases Nat.eq_zero_or_pos n with h | h
  · subst h
    constructor
    · intro h k hk; obtain rfl : k = 0 := by omega
      simp only [ex]; omega
    · intro h; have := h 0 (Nat.le_refl _); simp only [ex, hi] at *; omega
  · have h1 := hi_le f c n h
    constructor
    · intro h2 k hk
      rcases Nat.eq_zero_or_pos k with h3 | h3
      · subst h3; simp only [ex]; omega
      · exact h1.1 (by omega) k h3 hk
    · intro h2
      have h3 := h1.2 (fun k _ hk => h2 k hk)
      have h4 := h2 0 (by omega)
      simp only [ex] at h4; omega
theorem low_add (f : Nat → Bool) (a b : Nat) (h : 0 < a) : low f (a + b) = min (low f (a - 1)) (low (sh f a) b + ex f a) := by
  have key : ∀ c, c ≤ low f (a + b) ↔ c ≤ min (low f (a - 1)) (low (sh f a) b + ex f a) := fun c => by
    have h1 := low_ge f c (a + b)
    have h2 := low_ge f c (a - 1)
    have h3 := low_ge (sh f a) (c - ex f a) b
    have e1 : c ≤ min (low f (a - 1)) (low (sh f a) b + ex f a) ↔ c ≤ low f (a - 1) ∧ c - ex f a ≤ low (sh f a) b := by omega
    rw [e1, h1, h2, h3]
    constructor
    · intro q
      exact ⟨fun k hk => q k (by omega), fun k hk => by have := q (a + k) (by omega); rw [ex_add] at this; omega⟩
    · intro q k hk
      rcases Nat.lt_or_ge k a with h4 | h4
      · exact q.1 k (by omega)
      · have := q.2 (k - a) (by omega)
        have e : ex f k = ex f a + ex (sh f a) (k - a) := by rw [← ex_add]; congr 1; omega
        omega
  have k1 := (key _).1 (Int.le_refl _)
  have k2 := (key _).2 (Int.le_refl _)
  omega
theorem hgh_add (f : Nat → Bool) (a b : Nat) (h : 0 < a) : hgh f (a + b) = max (hgh f (a - 1)) (hgh (sh f a) b + ex f a) := by
  have key : ∀ c, hgh f (a + b) ≤ c ↔ max (hgh f (a - 1)) (hgh (sh f a) b + ex f a) ≤ c := fun c => by
    have h1 := hgh_le f c (a + b)
    have h2 := hgh_le f c (a - 1)
    have h3 := hgh_le (sh f a) (c - ex f a) b
    have e1 : max (hgh f (a - 1)) (hgh (sh f a) b + ex f a) ≤ c ↔ hgh f (a - 1) ≤ c ∧ hgh (sh f a) b ≤ c - ex f a := by omega
    rw [e1, h1, h2, h3]
    constructor
    · intro q
      exact ⟨fun k hk => q k (by omega), fun k hk => by have := q (a + k) (by omega); rw [ex_add] at this; omega⟩
    · intro q k hk
      rcases Nat.lt_or_ge k a with h4 | h4
      · exact q.1 k (by omega)
      · have := q.2 (k - a) (by omega)
        have e : ex f k = ex f a + ex (sh f a) (k - a) := by rw [← ex_add]; congr 1; omega
        omega
  have k1 := (key _).1 (Int.le_refl _)
  have k2 := (key _).2 (Int.le_refl _)
  omega
theorem rb_eq (f : Nat → Bool) (a b : Nat) : rb f a b = if b ≤ a then none else some (low (sh f a) (b - 1 - a), hgh (sh f a) (b - 1 - a)) := rfl
theorem rb_join (f : Nat → Bool) (a m b : Nat) (h1 : a ≤ m) (h2 : m ≤ b) : bo (rb f a m) (mv (rb f m b) (eb f a m)) = rb f a b := by
  simp only [rb_eq]
  rcases Nat.eq_or_lt_of_le h1 with e1 | e1
  · subst e1
    rw [if_pos (Nat.le_refl _), eb_self]
    split
    · rfl
    · simp [mv, bo]
  · rw [if_neg (by omega)]
    rcases Nat.eq_or_lt_of_le h2 with e2 | e2
    · subst e2
      rw [if_pos (Nat.le_refl _), if_neg (by omega)]; rfl
    · rw [if_neg (by omega), if_neg (by omega)]
      have l1 := low_add (sh f a) (m - a) (b - 1 - m) (by omega)
      have l2 := hgh_add (sh f a) (m - a) (b - 1 - m) (by omega)
      rw [sh_sh, show a + (m - a) = m from by omega, show m - a + (b - 1 - m) = b - 1 - a from by omega, show m - a - 1 = m - 1 - a from by omega] at l1 l2
      rw [l1, l2]; rfl

/-- Each number between, the empty beginning with them, is met. -/
theorem met_between (f : Nat → Bool) (d : Int) (n : Nat) : (low f n ≤ d ∧ d ≤ hgh f n) ↔ ∃ k, k ≤ n ∧ ex f k = d := by
  constructor
  · intro h
    by_cases h0 : d = 0
    · exact ⟨0, by omega, h0.symm⟩
    · rcases Nat.eq_zero_or_pos n with hn | hn
      · subst hn; unfold low hgh at h; simp only [lo, hi] at h; omega
      · have hl := lo_le_ex f n 1 (by omega) hn
        have hh := ex_le_hi f n 1 (by omega) hn
        have h1 : ex f 1 = 1 ∨ ex f 1 = -1 := by have := ex_step f 0; simp only [ex] at this ⊢; omega
        have hb : lo f n ≤ d ∧ d ≤ hi f n := by unfold low hgh at h; omega
        have h2 := (fnd_between f d n hn).2 hb
        exact ⟨fnd f d n, fnd_le f d n, fnd_ex f d n h2⟩
  · rintro ⟨k, hk, rfl⟩
    exact ⟨(low_ge f _ n).1 (Int.le_refl _) k hk, (hgh_le f _ n).1 (Int.le_refl _) k hk⟩

/-- Ahead: an excess is met in a node just if its reach has it. -/
theorem near_forth (f : Nat → Bool) (a A B : Nat) (d : Int) (h1 : a ≤ A) (h2 : A ≤ B) (h : fnd (sh f a) d (A - a) = 0) :
    inr (mv (rf f A B) (eb f a A)) d = true ↔ fnd (sh f a) d (B - a) ≠ 0 := by
  have e := fnd_add (sh f a) d (A - a) (B - A) h
  rw [sh_sh, show a + (A - a) = A from by omega, show A - a + (B - A) = B - a from by omega] at e
  rw [e]
  unfold rf
  rcases Nat.eq_or_lt_of_le h2 with h3 | h3
  · subst h3
    rw [if_pos (Nat.le_refl _), Nat.sub_self]
    simp [mv, inr, fnd]
  · rw [if_neg (by omega)]
    have hb := fnd_between (sh f A) (d - eb f a A) (B - A) (by omega)
    have e2 : eb f a A = ex (sh f a) (A - a) := rfl
    simp only [mv, inr, Option.map_some, Bool.and_eq_true, decide_eq_true_eq]
    rw [← e2]
    split
    · rename_i h4
      have := fun q => hb.2 q h4
      constructor
      · intro q; exact absurd (by omega) this
      · intro q; exact absurd rfl q
    · rename_i h4
      have := hb.1 h4
      constructor
      · intro _; omega
      · intro _; omega
theorem forthN_none (f : Nat → Bool) (a n : Nat) (d : Int) (h : fnd (sh f a) d (n - a) = 0) : forthN f a n d = -1 := by unfold forthN; rw [if_pos h]
/-- Behind: the excess of the bits from k to b, of some k of a node. -/
theorem fnd_rv (f : Nat → Bool) (A b : Nat) (d : Int) (h : A ≤ b) : fnd (rv f b) d (b - A) ≠ 0 ↔ ∃ k, A ≤ k ∧ k < b ∧ eb f k b = d := by
  constructor
  · intro hm
    have h1 := fnd_ex _ _ _ hm
    have h2 := fnd_le (rv f b) d (b - A)
    have h3 := ex_rv f (b - fnd (rv f b) d (b - A)) b (by omega)
    rw [show b - (b - fnd (rv f b) d (b - A)) = fnd (rv f b) d (b - A) from by omega, h1] at h3
    refine ⟨b - fnd (rv f b) d (b - A), by omega, by omega, ?_⟩
    unfold eb
    rw [show b - (b - fnd (rv f b) d (b - A)) = fnd (rv f b) d (b - A) from by omega]
    exact h3.symm
  · rintro ⟨k, h1, h2, h3⟩ h0
    have := (fnd_none (rv f b) d (b - A)).1 h0 (b - k) (by omega) (by omega)
    rw [ex_rv f k b (by omega)] at this
    exact this h3
theorem near_back (f : Nat → Bool) (A B b : Nat) (d : Int) (h1 : A ≤ B) (h2 : B ≤ b) (h : fnd (rv f b) d (b - B) = 0) :
    inr (rb f A B) (eb f A B + eb f B b - d) = true ↔ fnd (rv f b) d (b - A) ≠ 0 := by
  rw [fnd_rv f A b d (by omega), rb_eq]
  have h0 : ¬ ∃ k, B ≤ k ∧ k < b ∧ eb f k b = d := fun q => (fnd_rv f B b d h2).2 q h
  rcases Nat.eq_or_lt_of_le h1 with h3 | h3
  · subst h3
    rw [if_pos (Nat.le_refl _)]
    simp only [inr, Bool.false_eq_true, false_iff]; exact h0
  · rw [if_neg (by omega)]
    simp only [inr, Bool.and_eq_true, decide_eq_true_eq]
    rw [met_between]
    constructor
    · rintro ⟨k, hk, hq⟩
      refine ⟨A + k, by omega, by omega, ?_⟩
      have q1 := eb_add f A (A + k) B (by omega) (by omega)
      have q2 := eb_add f (A + k) B b (by omega) (by omega)
      have q3 : eb f A (A + k) = ex (sh f A) k := by unfold eb; rw [Nat.add_sub_cancel_left]
      omega
    · rintro ⟨k, hk1, hk2, hq⟩
      have hkB : k < B := by
        rcases Nat.lt_or_ge k B with h | h
        · exact h
        · exact absurd ⟨k, h, hk2, hq⟩ h0
      refine ⟨k - A, by omega, ?_⟩
      have q1 := eb_add f A k B (by omega) (by omega)
      have q2 := eb_add f k B b (by omega) (by omega)
      have q3 : eb f A k = ex (sh f A) (k - A) := rfl
      omega
theorem backN_none (f : Nat → Bool) (a b : Nat) (d : Int) (h : fnd (rv f b) d (b - a) = 0) : backN f a b d = -1 := by unfold backN; rw [if_pos h]
/-- The first block of a node, and the one behind its last, in a tree of F leaves. -/
def lfb (F i : Nat) : Nat := (i - 2 ^ i.log2) * (F / 2 ^ i.log2)
def rtb (F i : Nat) : Nat := (i + 1 - 2 ^ i.log2) * (F / 2 ^ i.log2)
theorem log2_dbl {i : Nat} (h : i ≠ 0) : (2 * i).log2 = i.log2 + 1 ∧ (2 * i + 1).log2 = i.log2 + 1 := by
  have h1 := Nat.log2_self_le h
  have h2 : i < 2 ^ (i.log2 + 1) := Nat.lt_log2_self
  have e1 : 2 ^ (i.log2 + 1) = 2 * 2 ^ i.log2 := by rw [Nat.pow_succ]; omega
  have e2 : 2 ^ (i.log2 + 1 + 1) = 2 * (2 * 2 ^ i.log2) := by rw [Nat.pow_succ, e1]; omega
  have key : ∀ j, 2 * i ≤ j → j ≤ 2 * i + 1 → j.log2 = i.log2 + 1 := fun j hj1 hj2 => by
    have a1 := (Nat.le_log2 (n := j) (by omega) (k := i.log2 + 1)).2 (by omega)
    have a2 := (Nat.log2_lt (n := j) (by omega) (k := i.log2 + 1 + 1)).2 (by omega)
    omega
  exact ⟨key _ (by omega) (by omega), key _ (by omega) (by omega)⟩
theorem node_child (h i : Nat) (h0 : 0 < i) (hi : i < 2 ^ h) :
    lfb (2 ^ h) (2 * i) = lfb (2 ^ h) i ∧ rtb (2 ^ h) (2 * i) = lfb (2 ^ h) (2 * i + 1) ∧ rtb (2 ^ h) (2 * i + 1) = rtb (2 ^ h) i := by
  obtain ⟨e1, e2⟩ := log2_dbl (i := i) (by omega)
  have hl : i.log2 < h := (Nat.log2_lt (by omega)).2 hi
  have h1 := Nat.log2_self_le (n := i) (by omega)
  unfold lfb rtb
  rw [e1, e2]
  have q1 : 2 ^ h / 2 ^ (i.log2 + 1) = 2 ^ (h - (i.log2 + 1)) := Nat.pow_div (by omega) (by omega)
  have q2 : 2 ^ h / 2 ^ i.log2 = 2 * 2 ^ (h - (i.log2 + 1)) := by rw [Nat.pow_div (by omega) (by omega), show h - i.log2 = (h - (i.log2 + 1)) + 1 from by omega, Nat.pow_succ]; omega
  have q3 : 2 ^ (i.log2 + 1) = 2 * 2 ^ i.log2 := by rw [Nat.pow_succ]; omega
  rw [q1, q2, q3]
  generalize 2 ^ i.log2 = P at *
  generalize 2 ^ (h - (i.log2 + 1)) = Q at *
  refine ⟨?_, ?_, ?_⟩
  · rw [show 2 * i - 2 * P = 2 * (i - P) from by omega, Nat.mul_comm 2 (i - P), Nat.mul_assoc]
  · rfl
  · rw [show 2 * i + 1 + 1 - 2 * P = 2 * (i + 1 - P) from by omega, Nat.mul_comm 2 (i + 1 - P), Nat.mul_assoc]
theorem node_root (h : Nat) : lfb (2 ^ h) 1 = 0 ∧ rtb (2 ^ h) 1 = 2 ^ h := by
  have e : Nat.log2 1 = 0 := by decide
  unfold lfb rtb; rw [e]; simp
theorem node_leaf (h i : Nat) (hi : 2 ^ h ≤ i) (hi2 : i < 2 * 2 ^ h) : lfb (2 ^ h) i = i - 2 ^ h ∧ rtb (2 ^ h) i = i - 2 ^ h + 1 := by
  have hp := Nat.two_pow_pos h
  have e : i.log2 = h := by
    have a1 := (Nat.le_log2 (n := i) (by omega) (k := h)).2 hi
    have a2 := (Nat.log2_lt (n := i) (by omega) (k := h + 1)).2 (by rw [Nat.pow_succ]; omega)
    omega
  unfold lfb rtb; rw [e, Nat.div_self hp]; omega
theorem node_le (F i : Nat) (h : i ≠ 0) : lfb F i ≤ rtb F i := Nat.mul_le_mul_right _ (by omega)
/-- Where a node begins, and ends. -/
def nA (n F i : Nat) : Nat := min (512 * lfb F i) n
def nB (n F i : Nat) : Nat := min (512 * rtb F i) n
theorem nA_le (n F i : Nat) (h : i ≠ 0) : nA n F i ≤ nB n F i ∧ nB n F i ≤ n := by
  have := node_le F i h; unfold nA nB; omega
theorem n_child (n h i : Nat) (h0 : 0 < i) (hi : i < 2 ^ h) :
    nA n (2 ^ h) (2 * i) = nA n (2 ^ h) i ∧ nB n (2 ^ h) (2 * i) = nA n (2 ^ h) (2 * i + 1) ∧ nB n (2 ^ h) (2 * i + 1) = nB n (2 ^ h) i := by
  obtain ⟨e1, e2, e3⟩ := node_child h i h0 hi
  unfold nA nB; rw [e1, e2, e3]; exact ⟨rfl, rfl, rfl⟩
theorem n_root (n h : Nat) (hn : n ≤ 512 * 2 ^ h) : nA n (2 ^ h) 1 = 0 ∧ nB n (2 ^ h) 1 = n := by
  obtain ⟨e1, e2⟩ := node_root h
  unfold nA nB; rw [e1, e2]; omega
theorem n_leaf (n h i : Nat) (hi : 2 ^ h ≤ i) (hi2 : i < 2 * 2 ^ h) : nA n (2 ^ h) i = min (512 * (i - 2 ^ h)) n ∧ nB n (2 ^ h) i = min (512 * (i - 2 ^ h) + 512) n := by
  obtain ⟨e1, e2⟩ := node_leaf h i hi hi2
  unfold nA nB; rw [e1, e2]; omega
/-- A node: its excess, and both reaches. -/
def nE (f : Nat → Bool) (n F i : Nat) : Int := eb f (nA n F i) (nB n F i)
def nF (f : Nat → Bool) (n F i : Nat) : Rc := rf f (nA n F i) (nB n F i)
def nK (f : Nat → Bool) (n F i : Nat) : Rc := rb f (nA n F i) (nB n F i)
theorem n_join (f : Nat → Bool) (n h i : Nat) (h0 : 0 < i) (hi : i < 2 ^ h) :
    nE f n (2 ^ h) i = nE f n (2 ^ h) (2 * i) + nE f n (2 ^ h) (2 * i + 1) ∧
    nF f n (2 ^ h) i = bo (nF f n (2 ^ h) (2 * i)) (mv (nF f n (2 ^ h) (2 * i + 1)) (nE f n (2 ^ h) (2 * i))) ∧
    nK f n (2 ^ h) i = bo (nK f n (2 ^ h) (2 * i)) (mv (nK f n (2 ^ h) (2 * i + 1)) (nE f n (2 ^ h) (2 * i))) := by
  obtain ⟨e1, e2, e3⟩ := n_child n h i h0 hi
  have l1 := (nA_le n (2 ^ h) (2 * i) (by omega)).1
  have l2 := (nA_le n (2 ^ h) (2 * i + 1) (by omega)).1
  unfold nE nF nK
  rw [e2] at l1
  rw [e2, e1, e3]
  rw [e1] at l1
  rw [e3] at l2
  exact ⟨(eb_add f _ _ _ l1 l2).symm, (rf_join f _ _ _ l1 l2).symm, (rb_join f _ _ _ l1 l2).symm⟩
end Go.Proofs.YtgpbpgpolpakjaaGreatDoor.L
