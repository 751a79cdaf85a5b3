/- Plain laws on words: bits of numbers, how many are 1, the byte-wise count of math/bits.OnesCount64; no program in sight. -/
import Derived.Lib.BitFns
set_option linter.unusedVariables false
set_option linter.unusedSimpArgs false
namespace Go.Proofs.YtlpnbkfcbamnbaaDoor
namespace L

/-- How many of the first n bits are 1. -/
def onesTo (w : Nat) : Nat → Nat
  | 0 => 0
  | n + 1 => onesTo w n + (w.testBit n).toNat

theorem onesTo_le (w n : Nat) : onesTo w n ≤ n := by
  induction n with
  | zero => simp [onesTo]
  | succ n ih => have := Bool.toNat_le (w.testBit n); simp only [onesTo]; omega

theorem onesTo_mono (w : Nat) {a b : Nat} (h : a ≤ b) : onesTo w a ≤ onesTo w b := by
  induction b with
  | zero => have : a = 0 := by omega
            subst this; exact Nat.le_refl _
  | succ b ih =>
    rcases Nat.lt_or_ge a (b + 1) with h1 | h1
    · have := ih (by omega); simp only [onesTo]; omega
    · have : a = b + 1 := by omega
      subst this; exact Nat.le_refl _

theorem onesTo_congr {v w : Nat} (n : Nat) (h : ∀ i, i < n → v.testBit i = w.testBit i) : onesTo v n = onesTo w n := by
  induction n with
  | zero => rfl
  | succ n ih => simp only [onesTo, ih (fun i hi => h i (by omega)), h n (by omega)]

theorem onesTo_add (w a b : Nat) : onesTo w (a + b) = onesTo w a + onesTo (w / 2 ^ a) b := by
  induction b with
  | zero => simp [onesTo]
  | succ b ih =>
    rw [show a + (b + 1) = (a + b) + 1 from by omega]
    simp only [onesTo, ih, Nat.testBit_div_two_pow]
    rw [show b + a = a + b from Nat.add_comm _ _]; omega

theorem onesTo_mod (w n : Nat) {k : Nat} (h : n ≤ k) : onesTo (w % 2 ^ k) n = onesTo w n :=
  onesTo_congr n fun i hi => by rw [Nat.testBit_mod_two_pow]; simp; omega

theorem onesTo_zero_word (n : Nat) : onesTo 0 n = 0 := by
  induction n with
  | zero => rfl
  | succ n ih => simp [onesTo, ih]

/-- Behind the bits that may be 1 no more come. -/
theorem onesTo_of_lt {w k n : Nat} (hw : w < 2 ^ k) (hk : k ≤ n) : onesTo w n = onesTo w k := by
  obtain ⟨d, rfl⟩ : ∃ d, n = k + d := ⟨n - k, by omega⟩
  rw [onesTo_add, Nat.div_eq_of_lt hw, onesTo_zero_word]; omega

theorem onesTo_mask (w n k : Nat) (h : n ≤ k) : onesTo (w &&& (2 ^ n - 1)) k = onesTo w n := by
  rw [Nat.and_two_pow_sub_one_eq_mod, onesTo_of_lt (Nat.mod_lt _ (Nat.two_pow_pos n)) h, onesTo_mod _ _ (Nat.le_refl n)]

/-- A number put together of bytes, the least first. -/
def nest : List Nat → Nat
  | [] => 0
  | b :: l => b + 256 * nest l

theorem nest_lt : ∀ l : List Nat, (∀ b ∈ l, b < 256) → nest l < 256 ^ l.length
  | [], _ => by simp [nest]
  | b :: l, h => by
    have h1 := nest_lt l (fun c hc => h c (List.mem_cons_of_mem _ hc))
    have h2 := h b List.mem_cons_self
    have h3 : 256 ^ (l.length + 1) = 256 ^ l.length * 256 := Nat.pow_succ _ _
    simp only [nest, List.length_cons]; omega

theorem and_split (q m r s : Nat) (hr : r < 256) (hs : s < 256) : (r + 256 * q) &&& (s + 256 * m) = (r &&& s) + 256 * (q &&& m) := by
  have hq : (r + 256 * q) / 2 ^ 8 = q := by omega
  have hm : (s + 256 * m) / 2 ^ 8 = m := by omega
  have hr' : (r + 256 * q) % 2 ^ 8 = r := by omega
  have hs' : (s + 256 * m) % 2 ^ 8 = s := by omega
  have h1 : ((r + 256 * q) &&& (s + 256 * m)) % 2 ^ 8 = r &&& s := by rw [Nat.and_mod_two_pow, hr', hs']
  have h2 : ((r + 256 * q) &&& (s + 256 * m)) / 2 ^ 8 = q &&& m := by
    rw [← Nat.shiftRight_eq_div_pow, Nat.shiftRight_and_distrib, Nat.shiftRight_eq_div_pow, Nat.shiftRight_eq_div_pow, hq, hm]
  omega

/-- A byte, so many times. -/
def rep (c : Nat) : Nat → Nat
  | 0 => 0
  | n + 1 => c + 256 * rep c n

def st1 (b : Nat) : Nat := (b / 2 &&& 85) + (b &&& 85)
def st2 (b : Nat) : Nat := (b / 4 &&& 51) + (b &&& 51)
def st3 (b : Nat) : Nat := (b / 16 + b) &&& 15

theorem st1_bd : ∀ b, b < 256 → ∀ c, c < 2 → ((b / 2 + 128 * c) &&& 85) = (b / 2 &&& 85) ∧ st1 b ≤ 170 := by decide +kernel
theorem st2_bd : ∀ b, b < 256 → ∀ c, c < 4 → ((b / 4 + 64 * c) &&& 51) = (b / 4 &&& 51) ∧ st2 b ≤ 102 := by decide +kernel
theorem st_all : ∀ b, b < 256 → st1 b < 256 ∧ st2 (st1 b) ≤ 68 ∧ st2 (st1 b) % 16 ≤ 4 ∧ st2 (st1 b) / 16 ≤ 4 ∧ st3 (st2 (st1 b)) = onesTo b 8 := by decide +kernel

theorem stage1 : ∀ l : List Nat, (∀ b ∈ l, b < 256) → (nest l / 2 &&& rep 85 l.length) + (nest l &&& rep 85 l.length) = nest (l.map st1)
  | [], _ => by simp [nest, rep]
  | b :: l, h => by
    have ih := stage1 l (fun c hc => h c (List.mem_cons_of_mem _ hc))
    have hb := h b List.mem_cons_self
    have e : (b + 256 * nest l) / 2 = (b / 2 + 128 * (nest l % 2)) + 256 * (nest l / 2) := by omega
    simp only [nest, rep, List.length_cons, List.map_cons]
    rw [e, and_split _ _ _ _ (by omega) (by omega), and_split _ _ _ _ hb (by omega), ← ih, (st1_bd b hb _ (Nat.mod_lt _ (by omega))).1]
    simp only [st1]; omega

theorem stage2 : ∀ l : List Nat, (∀ b ∈ l, b < 256) → (nest l / 4 &&& rep 51 l.length) + (nest l &&& rep 51 l.length) = nest (l.map st2)
  | [], _ => by simp [nest, rep]
  | b :: l, h => by
    have ih := stage2 l (fun c hc => h c (List.mem_cons_of_mem _ hc))
    have hb := h b List.mem_cons_self
    have e : (b + 256 * nest l) / 4 = (b / 4 + 64 * (nest l % 4)) + 256 * (nest l / 4) := by omega
    simp only [nest, rep, List.length_cons, List.map_cons]
    rw [e, and_split _ _ _ _ (by omega) (by omega), and_split _ _ _ _ hb (by omega), ← ih, (st2_bd b hb _ (Nat.mod_lt _ (by omega))).1]
    simp only [st2]; omega

theorem and15 (x : Nat) : x &&& 15 = x % 16 := Nat.and_two_pow_sub_one_eq_mod x 4

theorem stage3 : ∀ l : List Nat, (∀ b ∈ l, b ≤ 68 ∧ b % 16 ≤ 4 ∧ b / 16 ≤ 4) → nest l % 16 ≤ 4 ∧ (nest l / 16 + nest l) &&& rep 15 l.length = nest (l.map st3)
  | [], _ => by simp [nest, rep]
  | b :: l, h => by
    have ih := stage3 l (fun c hc => h c (List.mem_cons_of_mem _ hc))
    have hb := h b List.mem_cons_self
    have e : (b + 256 * nest l) / 16 + (b + 256 * nest l) = (16 * (nest l % 16) + b / 16 + b) + 256 * (nest l / 16 + nest l) := by omega
    refine ⟨by simp only [nest]; omega, ?_⟩
    simp only [nest, rep, List.length_cons, List.map_cons]
    rw [e, and_split _ _ _ _ (by omega) (by omega), ih.2, and15]
    simp only [st3, and15]; omega

theorem onesTo_nest : ∀ l : List Nat, (∀ b ∈ l, b < 256) → onesTo (nest l) (8 * l.length) = (l.map (onesTo · 8)).sum
  | [], _ => rfl
  | b :: l, h => by
    have ih := onesTo_nest l (fun c hc => h c (List.mem_cons_of_mem _ hc))
    have hb := h b List.mem_cons_self
    rw [List.length_cons, show 8 * (l.length + 1) = 8 + 8 * l.length from by omega, onesTo_add]
    have e1 : (nest (b :: l)) / 2 ^ 8 = nest l := by simp only [nest]; omega
    have e2 : onesTo (nest (b :: l)) 8 = onesTo b 8 := by
      rw [← onesTo_mod _ 8 (k := 8) (Nat.le_refl _)]
      have : nest (b :: l) % 2 ^ 8 = b := by simp only [nest]; omega
      rw [this]
    rw [e1, e2, ih]; simp

theorem bytes8 (x : Nat) (hx : x < 18446744073709551616) : ∃ b0 b1 b2 b3 b4 b5 b6 b7, b0 < 256 ∧ b1 < 256 ∧ b2 < 256 ∧ b3 < 256 ∧ b4 < 256 ∧ b5 < 256 ∧ b6 < 256 ∧ b7 < 256 ∧ x = nest [b0, b1, b2, b3, b4, b5, b6, b7] := by
  refine ⟨x % 256, x / 256 % 256, x / 256 / 256 % 256, x / 256 / 256 / 256 % 256, x / 256 / 256 / 256 / 256 % 256, x / 256 / 256 / 256 / 256 / 256 % 256,
    x / 256 / 256 / 256 / 256 / 256 / 256 % 256, x / 256 / 256 / 256 / 256 / 256 / 256 / 256 % 256, ?_⟩
  simp only [nest]
  omega

/-- What math/bits.OnesCount64 reckons, step by step. -/
def pop1 (x : Nat) : Nat := (x / 2 &&& 6148914691236517205) + (x &&& 6148914691236517205)
def pop2 (x : Nat) : Nat := (x / 4 &&& 3689348814741910323) + (x &&& 3689348814741910323)
def pop3 (x : Nat) : Nat := (x / 16 + x) &&& 1085102592571150095

theorem rep85 : rep 85 8 = 6148914691236517205 := by decide +kernel
theorem rep51 : rep 51 8 = 3689348814741910323 := by decide +kernel
theorem rep15 : rep 15 8 = 1085102592571150095 := by decide +kernel
theorem pop1_nest (l : List Nat) (hl : l.length = 8) (h : ∀ b ∈ l, b < 256) : pop1 (nest l) = nest (l.map st1) := by
  have := stage1 l h; rw [hl, rep85] at this; exact this
theorem pop2_nest (l : List Nat) (hl : l.length = 8) (h : ∀ b ∈ l, b < 256) : pop2 (nest l) = nest (l.map st2) := by
  have := stage2 l h; rw [hl, rep51] at this; exact this
theorem pop3_nest (l : List Nat) (hl : l.length = 8) (h : ∀ b ∈ l, b ≤ 68 ∧ b % 16 ≤ 4 ∧ b / 16 ≤ 4) : pop3 (nest l) = nest (l.map st3) := by
  have := (stage3 l h).2; rw [hl, rep15] at this; exact this

theorem nest8_bd (l : List Nat) (hl : l.length = 8) (h : ∀ b ∈ l, b < 256) : nest l < 18446744073709551616 := by
  have h1 := nest_lt l h
  have h2 : (256 : Nat) ^ 8 = 18446744073709551616 := by decide
  rw [hl, h2] at h1
  exact h1
theorem nest_le_const (c : Nat) : ∀ l : List Nat, (∀ b ∈ l, b ≤ c) → nest l ≤ rep c l.length
  | [], _ => by simp [nest, rep]
  | b :: l, h => by
    have h1 := nest_le_const c l (fun x hx => h x (List.mem_cons_of_mem _ hx))
    have h2 := h b List.mem_cons_self
    simp only [nest, rep, List.length_cons]; omega
theorem nest8_102 (l : List Nat) (hl : l.length = 8) (h : ∀ b ∈ l, b ≤ 102) : nest l < 9223372036854775808 := by
  have h1 := nest_le_const 102 l h
  have h2 : rep 102 8 < 9223372036854775808 := by decide +kernel
  rw [hl] at h1
  omega
theorem nest8_8 (l : List Nat) (hl : l.length = 8) (h : ∀ b ∈ l, b ≤ 8) : nest l < 4611686018427387904 := by
  have h1 := nest_le_const 8 l h
  have h2 : rep 8 8 < 4611686018427387904 := by decide +kernel
  rw [hl] at h1
  omega
theorem nest_div (b : Nat) (l : List Nat) (h : b < 256) : nest (b :: l) / 256 = nest l := by simp only [nest]; omega
theorem nest_add : ∀ l m : List Nat, nest l + nest m = nest ((l.zipWith (· + ·) m) ++ l.drop m.length ++ m.drop l.length)
  | [], m => by simp [nest]
  | l, [] => by simp [nest]
  | a :: l, b :: m => by
    have := nest_add l m
    simp only [List.zipWith_cons_cons, List.length_cons, List.drop_succ_cons, List.cons_append, nest]
    omega
theorem nest8_fold (a b c d e f g h : Nat) (ha : a ≤ 8) (hb : b ≤ 8) (hc : c ≤ 8) (hd : d ≤ 8) (he : e ≤ 8) (hf : f ≤ 8) (hg : g ≤ 8) (hh : h ≤ 8) :
    (let y := nest [a, b, c, d, e, f, g, h]; let y1 := y + y / 256; let y2 := y1 + y1 / 65536; (y2 + y2 / 4294967296) % 128 = a + (b + (c + (d + (e + (f + (g + h))))))) := by
  have d1 : nest [a, b, c, d, e, f, g, h] / 256 = nest [b, c, d, e, f, g, h] := nest_div _ _ (by omega)
  have e1 : nest [a, b, c, d, e, f, g, h] + nest [b, c, d, e, f, g, h] = nest [a + b, b + c, c + d, d + e, e + f, f + g, g + h, h] := nest_add _ _
  have d2 : nest [a + b, b + c, c + d, d + e, e + f, f + g, g + h, h] / 65536 = nest [c + d, d + e, e + f, f + g, g + h, h] := by
    rw [show 65536 = 256 * 256 from rfl, ← Nat.div_div_eq_div_mul, nest_div _ _ (by omega), nest_div _ _ (by omega)]
  have e2 : nest [a + b, b + c, c + d, d + e, e + f, f + g, g + h, h] + nest [c + d, d + e, e + f, f + g, g + h, h] = nest [a + b + (c + d), b + c + (d + e), c + d + (e + f), d + e + (f + g), e + f + (g + h), f + g + h, g + h, h] := nest_add _ _
  have d3 : nest [a + b + (c + d), b + c + (d + e), c + d + (e + f), d + e + (f + g), e + f + (g + h), f + g + h, g + h, h] / 4294967296 = nest [e + f + (g + h), f + g + h, g + h, h] := by
    rw [show 4294967296 = 256 * 256 * 256 * 256 from rfl, ← Nat.div_div_eq_div_mul, ← Nat.div_div_eq_div_mul, ← Nat.div_div_eq_div_mul, nest_div _ _ (by omega), nest_div _ _ (by omega), nest_div _ _ (by omega), nest_div _ _ (by omega)]
  intro y y1 y2
  have hy1 : y1 = nest [a + b, b + c, c + d, d + e, e + f, f + g, g + h, h] := by show nest _ + nest _ / 256 = _; rw [d1, e1]
  have hy2 : y2 = nest [a + b + (c + d), b + c + (d + e), c + d + (e + f), d + e + (f + g), e + f + (g + h), f + g + h, g + h, h] := by show y1 + y1 / 65536 = _; rw [hy1, d2, e2]
  rw [hy2, d3]
  generalize ht : nest [b + c + (d + e), c + d + (e + f), d + e + (f + g), e + f + (g + h), f + g + h, g + h, h] = t
  generalize hu : nest [f + g + h, g + h, h] = u
  have h1 : nest [a + b + (c + d), b + c + (d + e), c + d + (e + f), d + e + (f + g), e + f + (g + h), f + g + h, g + h, h] = (a + b + (c + d)) + 256 * t := by rw [← ht]; rfl
  have h2 : nest [e + f + (g + h), f + g + h, g + h, h] = (e + f + (g + h)) + 256 * u := by rw [← hu]; rfl
  rw [h1, h2]
  omega

set_option maxHeartbeats 1000000 in
theorem pop_main (x : Nat) (hx : x < 18446744073709551616) :
    pop1 x < 18446744073709551616 ∧ pop2 (pop1 x) < 9223372036854775808 ∧ pop3 (pop2 (pop1 x)) < 4611686018427387904 ∧
    (let y := pop3 (pop2 (pop1 x)); let y1 := y + y / 256; let y2 := y1 + y1 / 65536; (y2 + y2 / 4294967296) % 128 = onesTo x 64) := by
  obtain ⟨b0, b1, b2, b3, b4, b5, b6, b7, h0, h1, h2, h3, h4, h5, h6, h7, rfl⟩ := bytes8 x hx
  have hl : ∀ b ∈ [b0, b1, b2, b3, b4, b5, b6, b7], b < 256 := by
    intro b hb
    simp only [List.mem_cons, List.not_mem_nil, or_false] at hb
    omega
  have a0 := st_all b0 h0
  have a1 := st_all b1 h1
  have a2 := st_all b2 h2
  have a3 := st_all b3 h3
  have a4 := st_all b4 h4
  have a5 := st_all b5 h5
  have a6 := st_all b6 h6
  have a7 := st_all b7 h7
  have e1 : pop1 (nest [b0, b1, b2, b3, b4, b5, b6, b7]) = nest [st1 b0, st1 b1, st1 b2, st1 b3, st1 b4, st1 b5, st1 b6, st1 b7] := pop1_nest _ rfl hl
  have hl1 : ∀ b ∈ [st1 b0, st1 b1, st1 b2, st1 b3, st1 b4, st1 b5, st1 b6, st1 b7], b < 256 := by
    intro b hb
    simp only [List.mem_cons, List.not_mem_nil, or_false] at hb
    omega
  have e2 : pop2 (nest [st1 b0, st1 b1, st1 b2, st1 b3, st1 b4, st1 b5, st1 b6, st1 b7]) = nest [st2 (st1 b0), st2 (st1 b1), st2 (st1 b2), st2 (st1 b3), st2 (st1 b4), st2 (st1 b5), st2 (st1 b6), st2 (st1 b7)] := pop2_nest _ rfl hl1
  have hl2 : ∀ b ∈ [st2 (st1 b0), st2 (st1 b1), st2 (st1 b2), st2 (st1 b3), st2 (st1 b4), st2 (st1 b5), st2 (st1 b6), st2 (st1 b7)], b ≤ 68 ∧ b % 16 ≤ 4 ∧ b / 16 ≤ 4 := by
    intro b hb
    simp only [List.mem_cons, List.not_mem_nil, or_false] at hb
    rcases hb with rfl | rfl | rfl | rfl | rfl | rfl | rfl | rfl <;> omega
  have e3 : pop3 (nest [st2 (st1 b0), st2 (st1 b1), st2 (st1 b2), st2 (st1 b3), st2 (st1 b4), st2 (st1 b5), st2 (st1 b6), st2 (st1 b7)]) = nest [st3 (st2 (st1 b0)), st3 (st2 (st1 b1)), st3 (st2 (st1 b2)), st3 (st2 (st1 b3)), st3 (st2 (st1 b4)), st3 (st2 (st1 b5)), st3 (st2 (st1 b6)), st3 (st2 (st1 b7))] := pop3_nest _ rfl hl2
  have e4 := onesTo_nest _ hl
  simp only [List.length_cons, List.length_nil, List.map_cons, List.map_nil, List.sum_cons, List.sum_nil, Nat.reduceAdd, Nat.reduceMul] at e4
  have c0 := onesTo_le b0 8
  have c1 := onesTo_le b1 8
  have c2 := onesTo_le b2 8
  have c3 := onesTo_le b3 8
  have c4 := onesTo_le b4 8
  have c5 := onesTo_le b5 8
  have c6 := onesTo_le b6 8
  have c7 := onesTo_le b7 8
  rw [e1, e2, e3, e4, a0.2.2.2.2, a1.2.2.2.2, a2.2.2.2.2, a3.2.2.2.2, a4.2.2.2.2, a5.2.2.2.2, a6.2.2.2.2, a7.2.2.2.2]
  refine ⟨nest8_bd _ rfl hl1, nest8_102 _ rfl ?_, nest8_8 _ rfl ?_, nest8_fold _ _ _ _ _ _ _ _ c0 c1 c2 c3 c4 c5 c6 c7⟩
  · intro b hb
    exact Nat.le_trans (hl2 b hb).1 (by omega)
  · intro b hb
    simp only [List.mem_cons, List.not_mem_nil, or_false] at hb
    rcases hb with rfl | rfl | rfl | rfl | rfl | rfl | rfl | rfl <;> assumption

end L
end Go.Proofs.YtlpnbkfcbamnbaaDoor
