/- Proof text. -/
import Derived.Lib.BitFns
import Derived.WalkKit
import Derived.Lib.ItoaNum
import Derived.Lib.UnsafeStr
import Derived.Lib.TrailingZeros
set_option maxHeartbeats 1000000
set_option linter.unusedVariables false
set_option linter.unusedSimpArgs false
namespace Go.Proofs.YtgpbpgpolpakjaaGreatDoor
namespace L
def zi (w : Nat) : Nat → Nat
 | 0 => 0
 | n + 1 => zi w n + (w.testBit n).toNat
theorem zbu (w n : Nat) : zi w n ≤ n := by
 induction n with
 | zero => simp [zi]
 | succ n ih => have := Bool.toNat_le (w.testBit n); simp only [zi]; omega
theorem zhy (w : Nat) {a b : Nat} (h : a ≤ b) : zi w a ≤ zi w b := by
 induction b with
 | zero => have : a = 0 := by omega
           subst this; exact Nat.le_refl _
 | succ b ih =>
   rcases Nat.lt_or_ge a (b + 1) with h1 | h1
   ·have := ih (by omega); simp only [zi]; omega
   ·have : a = b + 1 := by omega
    subst this; exact Nat.le_refl _
theorem zrw {v w : Nat} (n : Nat) (h : ∀ i, i < n → v.testBit i = w.testBit i) : zi v n = zi w n := by
 induction n with
 | zero => rfl
 | succ n ih => simp only [zi, ih (fun i hi => h i (by omega)), h n (by omega)]
theorem ziv (w a b : Nat) : zi w (a + b) = zi w a + zi (w / 2 ^ a) b := by
 induction b with
 | zero => simp [zi]
 | succ b ih =>
   rw [show a + (b + 1) = (a + b) + 1 from by omega]
   simp only [zi, ih, Nat.testBit_div_two_pow]
   rw [show b + a = a + b from Nat.add_comm _ _]; omega
theorem zm4 (w n : Nat) {k : Nat} (h : n ≤ k) : zi (w % 2 ^ k) n = zi w n :=
 zrw n fun i hi => by rw [Nat.testBit_mod_two_pow]; simp; omega
theorem zme (n : Nat) : zi 0 n = 0 := by
 induction n with
 | zero => rfl
 | succ n ih => simp [zi, ih]
theorem zrx {w k n : Nat} (hw : w < 2 ^ k) (hk : k ≤ n) : zi w n = zi w k := by
 obtain ⟨d, rfl⟩ : ∃ d, n = k + d := ⟨n - k, by omega⟩
 rw [ziv, Nat.div_eq_of_lt hw, zme]; omega
theorem zls (w n k : Nat) (h : n ≤ k) : zi (w &&& (2 ^ n - 1)) k = zi w n := by
 rw [Nat.and_two_pow_sub_one_eq_mod, zrx (Nat.mod_lt _ (Nat.two_pow_pos n)) h, zm4 _ _ (Nat.le_refl n)]
def nest : List Nat → Nat
 | [] => 0
 | b :: l => b + 256 * nest l
theorem zh6 : ∀ l : List Nat, (∀ b ∈ l, b < 256) → nest l < 256 ^ l.length
 | [], _ => by simp [nest]
 | b :: l, h => by
   have h1 := zh6 l (fun c hc => h c (List.mem_cons_of_mem _ hc))
   have h2 := h b List.mem_cons_self
   have h3 : 256 ^ (l.length + 1) = 256 ^ l.length * 256 := Nat.pow_succ _ _
   simp only [nest, List.length_cons]; omega
theorem and_split (q m r s : Nat) (hr : r < 256) (hs : s < 256) : (r + 256 * q) &&& (s + 256 * m) = (r &&& s) + 256 * (q &&& m) := by
 have hq : (r + 256 * q) / 2 ^ 8 = q := by omega
 have hm : (s + 256 * m) / 2 ^ 8 = m := by omega
 have hr' : (r + 256 * q) % 2 ^ 8 = r := by omega
 have hs' : (s + 256 * m) % 2 ^ 8 = s := by omega
 have h1 : ((r + 256 * q) &&& (s + 256 * m)) % 2 ^ 8 = r &&& s := by rw [Nat.and_mod_two_pow, hr', hs']
 have h2 : ((r + 256 * q) &&& (s + 256 * m)) / 2 ^ 8 = q &&& m := by
  rw [← Nat.shiftRight_eq_div_pow, Nat.shiftRight_and_distrib, Nat.shiftRight_eq_div_pow, Nat.shiftRight_eq_div_pow, hq, hm]
 omega
def rep (c : Nat) : Nat → Nat
 | 0 => 0
 | n + 1 => c + 256 * rep c n
def st1 (b : Nat) : Nat := (b / 2 &&& 85) + (b &&& 85)
def st2 (b : Nat) : Nat := (b / 4 &&& 51) + (b &&& 51)
def st3 (b : Nat) : Nat := (b / 16 + b) &&& 15
theorem z7l : ∀ b, b < 256 → ∀ c, c < 2 → ((b / 2 + 128 * c) &&& 85) = (b / 2 &&& 85) ∧ st1 b ≤ 170 := by decide +kernel
theorem z7m : ∀ b, b < 256 → ∀ c, c < 4 → ((b / 4 + 64 * c) &&& 51) = (b / 4 &&& 51) ∧ st2 b ≤ 102 := by decide +kernel
theorem zf8 : ∀ b, b < 256 → st1 b < 256 ∧ st2 (st1 b) ≤ 68 ∧ st2 (st1 b) % 16 ≤ 4 ∧ st2 (st1 b) / 16 ≤ 4 ∧ st3 (st2 (st1 b)) = zi b 8 := by decide +kernel
theorem zyq : ∀ l : List Nat, (∀ b ∈ l, b < 256) → (nest l / 2 &&& rep 85 l.length) + (nest l &&& rep 85 l.length) = nest (l.map st1)
 | [], _ => by simp [nest, rep]
 | b :: l, h => by
   have ih := zyq l (fun c hc => h c (List.mem_cons_of_mem _ hc))
   have hb := h b List.mem_cons_self
   have e : (b + 256 * nest l) / 2 = (b / 2 + 128 * (nest l % 2)) + 256 * (nest l / 2) := by omega
   simp only [nest, rep, List.length_cons, List.map_cons]
   rw [e, and_split _ _ _ _ (by omega) (by omega), and_split _ _ _ _ hb (by omega), ← ih, (z7l b hb _ (Nat.mod_lt _ (by omega))).1]
   simp only [st1]; omega
theorem zyr : ∀ l : List Nat, (∀ b ∈ l, b < 256) → (nest l / 4 &&& rep 51 l.length) + (nest l &&& rep 51 l.length) = nest (l.map st2)
 | [], _ => by simp [nest, rep]
 | b :: l, h => by
   have ih := zyr l (fun c hc => h c (List.mem_cons_of_mem _ hc))
   have hb := h b List.mem_cons_self
   have e : (b + 256 * nest l) / 4 = (b / 4 + 64 * (nest l % 4)) + 256 * (nest l / 4) := by omega
   simp only [nest, rep, List.length_cons, List.map_cons]
   rw [e, and_split _ _ _ _ (by omega) (by omega), and_split _ _ _ _ hb (by omega), ← ih, (z7m b hb _ (Nat.mod_lt _ (by omega))).1]
   simp only [st2]; omega
theorem z4r (x : Nat) : x &&& 15 = x % 16 := Nat.and_two_pow_sub_one_eq_mod x 4
theorem zys : ∀ l : List Nat, (∀ b ∈ l, b ≤ 68 ∧ b % 16 ≤ 4 ∧ b / 16 ≤ 4) → nest l % 16 ≤ 4 ∧ (nest l / 16 + nest l) &&& rep 15 l.length = nest (l.map st3)
 | [], _ => by simp [nest, rep]
 | b :: l, h => by
   have ih := zys l (fun c hc => h c (List.mem_cons_of_mem _ hc))
   have hb := h b List.mem_cons_self
   have e : (b + 256 * nest l) / 16 + (b + 256 * nest l) = (16 * (nest l % 16) + b / 16 + b) + 256 * (nest l / 16 + nest l) := by omega
   refine ⟨by simp only [nest]; omega, ?_⟩
   simp only [nest, rep, List.length_cons, List.map_cons]
   rw [e, and_split _ _ _ _ (by omega) (by omega), ih.2, z4r]
   simp only [st3, z4r]; omega
theorem zlt : ∀ l : List Nat, (∀ b ∈ l, b < 256) → zi (nest l) (8 * l.length) = (l.map (zi · 8)).sum
 | [], _ => rfl
 | b :: l, h => by
   have ih := zlt l (fun c hc => h c (List.mem_cons_of_mem _ hc))
   have hb := h b List.mem_cons_self
   rw [List.length_cons, show 8 * (l.length + 1) = 8 + 8 * l.length from by omega, ziv]
   have e1 : (nest (b :: l)) / 2 ^ 8 = nest l := by simp only [nest]; omega
   have e2 : zi (nest (b :: l)) 8 = zi b 8 := by
    rw [← zm4 _ 8 (k := 8) (Nat.le_refl _)]
    have : nest (b :: l) % 2 ^ 8 = b := by simp only [nest]; omega
    rw [this]
   rw [e1, e2, ih]; simp
theorem z7n (x : Nat) (hx : x < 18446744073709551616) : ∃ b0 b1 b2 b3 b4 b5 b6 b7, b0 < 256 ∧ b1 < 256 ∧ b2 < 256 ∧ b3 < 256 ∧ b4 < 256 ∧ b5 < 256 ∧ b6 < 256 ∧ b7 < 256 ∧ x = nest [b0, b1, b2, b3, b4, b5, b6, b7] := by
 refine ⟨x % 256, x / 256 % 256, x / 256 / 256 % 256, x / 256 / 256 / 256 % 256, x / 256 / 256 / 256 / 256 % 256, x / 256 / 256 / 256 / 256 / 256 % 256,
  x / 256 / 256 / 256 / 256 / 256 / 256 % 256, x / 256 / 256 / 256 / 256 / 256 / 256 / 256 % 256, ?_⟩
 simp only [nest]
 omega
def pop1 (x : Nat) : Nat := (x / 2 &&& 6148914691236517205) + (x &&& 6148914691236517205)
def pop2 (x : Nat) : Nat := (x / 4 &&& 3689348814741910323) + (x &&& 3689348814741910323)
def pop3 (x : Nat) : Nat := (x / 16 + x) &&& 1085102592571150095
theorem z8r : rep 85 8 = 6148914691236517205 := by decide +kernel
theorem z8s : rep 51 8 = 3689348814741910323 := by decide +kernel
theorem z8t : rep 15 8 = 1085102592571150095 := by decide +kernel
theorem zyt (l : List Nat) (hl : l.length = 8) (h : ∀ b ∈ l, b < 256) : pop1 (nest l) = nest (l.map st1) := by
 have := zyq l h; rw [hl, z8r] at this; exact this
theorem zyu (l : List Nat) (hl : l.length = 8) (h : ∀ b ∈ l, b < 256) : pop2 (nest l) = nest (l.map st2) := by
 have := zyr l h; rw [hl, z8s] at this; exact this
theorem zyv (l : List Nat) (hl : l.length = 8) (h : ∀ b ∈ l, b ≤ 68 ∧ b % 16 ≤ 4 ∧ b / 16 ≤ 4) : pop3 (nest l) = nest (l.map st3) := by
 have := (zys l h).2; rw [hl, z8t] at this; exact this
theorem z1h (l : List Nat) (hl : l.length = 8) (h : ∀ b ∈ l, b < 256) : nest l < 18446744073709551616 := by
 have h1 := zh6 l h
 have h2 : (256 : Nat) ^ 8 = 18446744073709551616 := by decide
 rw [hl, h2] at h1
 exact h1
theorem zgl (c : Nat) : ∀ l : List Nat, (∀ b ∈ l, b ≤ c) → nest l ≤ rep c l.length
 | [], _ => by simp [nest, rep]
 | b :: l, h => by
   have h1 := zgl c l (fun x hx => h x (List.mem_cons_of_mem _ hx))
   have h2 := h b List.mem_cons_self
   simp only [nest, rep, List.length_cons]; omega
theorem zyw (l : List Nat) (hl : l.length = 8) (h : ∀ b ∈ l, b ≤ 102) : nest l < 9223372036854775808 := by
 have h1 := zgl 102 l h
 have h2 : rep 102 8 < 9223372036854775808 := by decide +kernel
 rw [hl] at h1
 omega
theorem z4z (l : List Nat) (hl : l.length = 8) (h : ∀ b ∈ l, b ≤ 8) : nest l < 4611686018427387904 := by
 have h1 := zgl 8 l h
 have h2 : rep 8 8 < 4611686018427387904 := by decide +kernel
 rw [hl] at h1
 omega
theorem ze0 (b : Nat) (l : List Nat) (h : b < 256) : nest (b :: l) / 256 = nest l := by simp only [nest]; omega
theorem zmf : ∀ l m : List Nat, nest l + nest m = nest ((l.zipWith (· + ·) m) ++ l.drop m.length ++ m.drop l.length)
 | [], m => by simp [nest]
 | l, [] => by simp [nest]
 | a :: l, b :: m => by
   have := zmf l m
   simp only [List.zipWith_cons_cons, List.length_cons, List.drop_succ_cons, List.cons_append, nest]
   omega
theorem zxb (a b c d e f g h : Nat) (ha : a ≤ 8) (hb : b ≤ 8) (hc : c ≤ 8) (hd : d ≤ 8) (he : e ≤ 8) (hf : f ≤ 8) (hg : g ≤ 8) (hh : h ≤ 8) :
  (let y := nest [a, b, c, d, e, f, g, h]; let y1 := y + y / 256; let y2 := y1 + y1 / 65536; (y2 + y2 / 4294967296) % 128 = a + (b + (c + (d + (e + (f + (g + h))))))) := by
 have d1 : nest [a, b, c, d, e, f, g, h] / 256 = nest [b, c, d, e, f, g, h] := ze0 _ _ (by omega)
 have e1 : nest [a, b, c, d, e, f, g, h] + nest [b, c, d, e, f, g, h] = nest [a + b, b + c, c + d, d + e, e + f, f + g, g + h, h] := zmf _ _
 have d2 : nest [a + b, b + c, c + d, d + e, e + f, f + g, g + h, h] / 65536 = nest [c + d, d + e, e + f, f + g, g + h, h] := by
  rw [show 65536 = 256 * 256 from rfl, ← Nat.div_div_eq_div_mul, ze0 _ _ (by omega), ze0 _ _ (by omega)]
 have e2 : nest [a + b, b + c, c + d, d + e, e + f, f + g, g + h, h] + nest [c + d, d + e, e + f, f + g, g + h, h] = nest [a + b + (c + d), b + c + (d + e), c + d + (e + f), d + e + (f + g), e + f + (g + h), f + g + h, g + h, h] := zmf _ _
 have d3 : nest [a + b + (c + d), b + c + (d + e), c + d + (e + f), d + e + (f + g), e + f + (g + h), f + g + h, g + h, h] / 4294967296 = nest [e + f + (g + h), f + g + h, g + h, h] := by
  rw [show 4294967296 = 256 * 256 * 256 * 256 from rfl, ← Nat.div_div_eq_div_mul, ← Nat.div_div_eq_div_mul, ← Nat.div_div_eq_div_mul, ze0 _ _ (by omega), ze0 _ _ (by omega), ze0 _ _ (by omega), ze0 _ _ (by omega)]
 intro y y1 y2
 have hy1 : y1 = nest [a + b, b + c, c + d, d + e, e + f, f + g, g + h, h] := by show nest _ + nest _ / 256 = _; rw [d1, e1]
 have hy2 : y2 = nest [a + b + (c + d), b + c + (d + e), c + d + (e + f), d + e + (f + g), e + f + (g + h), f + g + h, g + h, h] := by show y1 + y1 / 65536 = _; rw [hy1, d2, e2]
 rw [hy2, d3]
 generalize ht : nest [b + c + (d + e), c + d + (e + f), d + e + (f + g), e + f + (g + h), f + g + h, g + h, h] = t
 generalize hu : nest [f + g + h, g + h, h] = u
 have h1 : nest [a + b + (c + d), b + c + (d + e), c + d + (e + f), d + e + (f + g), e + f + (g + h), f + g + h, g + h, h] = (a + b + (c + d)) + 256 * t := by rw [← ht]; rfl
 have h2 : nest [e + f + (g + h), f + g + h, g + h, h] = (e + f + (g + h)) + 256 * u := by rw [← hu]; rfl
 rw [h1, h2]
 omega
theorem z1i (x : Nat) (hx : x < 18446744073709551616) :
  pop1 x < 18446744073709551616 ∧ pop2 (pop1 x) < 9223372036854775808 ∧ pop3 (pop2 (pop1 x)) < 4611686018427387904 ∧
  (let y := pop3 (pop2 (pop1 x)); let y1 := y + y / 256; let y2 := y1 + y1 / 65536; (y2 + y2 / 4294967296) % 128 = zi x 64) := by
 obtain ⟨b0, b1, b2, b3, b4, b5, b6, b7, h0, h1, h2, h3, h4, h5, h6, h7, rfl⟩ := z7n x hx
 have hl : ∀ b ∈ [b0, b1, b2, b3, b4, b5, b6, b7], b < 256 := by
  intro b hb
  simp only [List.mem_cons, List.not_mem_nil, or_false] at hb
  omega
 have a0 := zf8 b0 h0
 have a1 := zf8 b1 h1
 have a2 := zf8 b2 h2
 have a3 := zf8 b3 h3
 have a4 := zf8 b4 h4
 have a5 := zf8 b5 h5
 have a6 := zf8 b6 h6
 have a7 := zf8 b7 h7
 have e1 : pop1 (nest [b0, b1, b2, b3, b4, b5, b6, b7]) = nest [st1 b0, st1 b1, st1 b2, st1 b3, st1 b4, st1 b5, st1 b6, st1 b7] := zyt _ rfl hl
 have hl1 : ∀ b ∈ [st1 b0, st1 b1, st1 b2, st1 b3, st1 b4, st1 b5, st1 b6, st1 b7], b < 256 := by
  intro b hb
  simp only [List.mem_cons, List.not_mem_nil, or_false] at hb
  omega
 have e2 : pop2 (nest [st1 b0, st1 b1, st1 b2, st1 b3, st1 b4, st1 b5, st1 b6, st1 b7]) = nest [st2 (st1 b0), st2 (st1 b1), st2 (st1 b2), st2 (st1 b3), st2 (st1 b4), st2 (st1 b5), st2 (st1 b6), st2 (st1 b7)] := zyu _ rfl hl1
 have hl2 : ∀ b ∈ [st2 (st1 b0), st2 (st1 b1), st2 (st1 b2), st2 (st1 b3), st2 (st1 b4), st2 (st1 b5), st2 (st1 b6), st2 (st1 b7)], b ≤ 68 ∧ b % 16 ≤ 4 ∧ b / 16 ≤ 4 := by
  intro b hb
  simp only [List.mem_cons, List.not_mem_nil, or_false] at hb
  rcases hb with rfl | rfl | rfl | rfl | rfl | rfl | rfl | rfl <;> omega
 have e3 : pop3 (nest [st2 (st1 b0), st2 (st1 b1), st2 (st1 b2), st2 (st1 b3), st2 (st1 b4), st2 (st1 b5), st2 (st1 b6), st2 (st1 b7)]) = nest [st3 (st2 (st1 b0)), st3 (st2 (st1 b1)), st3 (st2 (st1 b2)), st3 (st2 (st1 b3)), st3 (st2 (st1 b4)), st3 (st2 (st1 b5)), st3 (st2 (st1 b6)), st3 (st2 (st1 b7))] := zyv _ rfl hl2
 have e4 := zlt _ hl
 simp only [List.length_cons, List.length_nil, List.map_cons, List.map_nil, List.sum_cons, List.sum_nil, Nat.reduceAdd, Nat.reduceMul] at e4
 have c0 := zbu b0 8
 have c1 := zbu b1 8
 have c2 := zbu b2 8
 have c3 := zbu b3 8
 have c4 := zbu b4 8
 have c5 := zbu b5 8
 have c6 := zbu b6 8
 have c7 := zbu b7 8
 rw [e1, e2, e3, e4, a0.2.2.2.2, a1.2.2.2.2, a2.2.2.2.2, a3.2.2.2.2, a4.2.2.2.2, a5.2.2.2.2, a6.2.2.2.2, a7.2.2.2.2]
 refine ⟨z1h _ rfl hl1, zyw _ rfl ?_, z4z _ rfl ?_, zxb _ _ _ _ _ _ _ _ c0 c1 c2 c3 c4 c5 c6 c7⟩
 ·intro b hb
  exact Nat.le_trans (hl2 b hb).1 (by omega)
 ·intro b hb
  simp only [List.mem_cons, List.not_mem_nil, or_false] at hb
  rcases hb with rfl | rfl | rfl | rfl | rfl | rfl | rfl | rfl <;> assumption
end L
namespace L
theorem hid {p : Prop} (h : p) : Go.RowKit.Hid p := h
def z8 (n : Int) : Nat := (min (max n 0) 64).toNat
theorem zj4 (x d c : Nat) (hx : x < 18446744073709551616) (hc : c < 18446744073709551616) (h : (x / d &&& c) + (x &&& c) < 18446744073709551616) :
  IntKind.u64.wrap (bits BinOp.and IntKind.u64 ((x : Int) / (d : Int)) (c : Int) + bits BinOp.and IntKind.u64 (x : Int) (c : Int)) = (((x / d &&& c) + (x &&& c) : Nat) : Int) := by
 have e : (x : Int) / (d : Int) = ((x / d : Nat) : Int) := rfl
 rw [e, u64_and_nat _ _ (Nat.lt_of_le_of_lt (Nat.div_le_self x d) hx) hc, u64_and_nat _ _ hx hc, IntKind.wrap_u64]
 omega
theorem z1j (y : Nat) (hy : y < 9223372036854775808) : bits BinOp.and IntKind.i64 (y : Int) 127 = ((y % 128 : Nat) : Int) := by
 rw [show y % 128 = y &&& 127 from (Nat.and_two_pow_sub_one_eq_mod y 7).symm]
 have h : y &&& 127 < 2 ^ 7 := Nat.and_lt_two_pow _ (by omega)
 show IntKind.i64.wrap ((BitVec.ofInt 64 (y : Int) &&& BitVec.ofInt 64 (127 : Int)).toNat : Int) = _
 rw [BitVec.toNat_and, BitVec.ofInt_natCast, BitVec.toNat_ofNat, Nat.mod_eq_of_lt (by omega), show (BitVec.ofInt 64 (127 : Int)).toNat = 127 from by decide, IntKind.wrap_i64]
 omega
theorem zd6 (n : Int) : z8 n ≤ 64 := by unfold z8; omega
theorem zyx {n : Int} (h : 0 ≤ n) (h' : n ≤ 64) : z8 n = n.toNat := by unfold z8; omega
theorem zm5 {n : Nat} (h' : n ≤ 64) : z8 (n : Int) = n := by unfold z8; omega
theorem zq0 (n : Int) : z8 (z8 n : Nat) = z8 n := zm5 (zd6 n)
theorem zry {k : Nat} (h : k < 64) : 2 ^ k < 18446744073709551616 := by
 have : (2 : Nat) ^ k < 2 ^ 64 := Nat.pow_lt_pow_right (by omega) h
 have e : (2 : Nat) ^ 64 = 18446744073709551616 := by decide
 omega
theorem zcu {k : Nat} (h : k ≤ 64) : 2 ^ k ≤ 18446744073709551616 := by
 have : (2 : Nat) ^ k ≤ 2 ^ 64 := Nat.pow_le_pow_right (by omega) h
 have e : (2 : Nat) ^ 64 = 18446744073709551616 := by decide
 omega
theorem zon (n : Int) : 2 ^ z8 n - 1 < 18446744073709551616 := by
 have := zcu (zd6 n); have := Nat.two_pow_pos (z8 n); omega
theorem z5a (k : Int) (hk : 0 ≤ k) (h : k < 64) : IntKind.u64.wrap (IntKind.u64.wrap (2 ^ k.toNat) - 1) = ((2 ^ z8 k - 1 : Nat) : Int) := by
 rw [zyx hk (by omega), IntKind.wrap_u64, IntKind.wrap_u64]
 have h1 : k.toNat < 64 := by omega
 have h2 := zry h1
 have h3 := Nat.two_pow_pos k.toNat
 have e : ((2 : Int) ^ k.toNat) = ((2 ^ k.toNat : Nat) : Int) := by simp
 rw [e]
 omega
theorem z5b (k : Int) (h : 64 ≤ k) : (18446744073709551615 : Int) = ((2 ^ z8 k - 1 : Nat) : Int) := by
 have : z8 k = 64 := by unfold z8; omega
 rw [this]; decide
theorem z1k (x : Nat) (n : Int) (hx : x < 18446744073709551616) :
  bits BinOp.and IntKind.u64 (x : Int) ((2 ^ z8 (z8 n : Nat) - 1 : Nat) : Int) = ((x % 2 ^ z8 n : Nat) : Int) ∧ x % 2 ^ z8 n < 18446744073709551616 ∧ zi (x % 2 ^ z8 n) 64 = zi x (z8 n) := by
 rw [zq0, ← Nat.and_two_pow_sub_one_eq_mod]
 exact ⟨u64_and_nat _ _ hx (zon n), Nat.lt_of_le_of_lt Nat.and_le_left hx, zls _ _ _ (zd6 n)⟩
def zay (x : Nat) (p n : Int) : Nat :=
 if n < 1 ∨ 64 ≤ p ∨ p ≤ -64 then 0
 else if p < 0 then (x * 2 ^ (-p).toNat % 18446744073709551616) % 2 ^ z8 n
 else (x / 2 ^ p.toNat) % 2 ^ z8 n
theorem zyy (x : Nat) (p n : Int) (hx : x < 18446744073709551616) (h : ¬ (n < 1 ∨ 64 ≤ p ∨ p ≤ -64)) (hp : p < 0) :
  bits BinOp.and IntKind.u64 (IntKind.u64.wrap ((x : Int) * 2 ^ (-p).toNat)) ((2 ^ z8 n - 1 : Nat) : Int) = ((zay x p n : Nat) : Int) := by
 have e : IntKind.u64.wrap ((x : Int) * 2 ^ (-p).toNat) = ((x * 2 ^ (-p).toNat % 18446744073709551616 : Nat) : Int) := by
  rw [IntKind.wrap_u64]; simp
 rw [e, u64_and_nat _ _ (Nat.mod_lt _ (by omega)) (zon n), Nat.and_two_pow_sub_one_eq_mod]
 unfold zay; rw [if_neg h, if_pos hp]
theorem zyz (x : Nat) (p n : Int) (hx : x < 18446744073709551616) (h : ¬ (n < 1 ∨ 64 ≤ p ∨ p ≤ -64)) (hp : 0 ≤ p) :
  bits BinOp.and IntKind.u64 ((x : Int) / 2 ^ p.toNat) ((2 ^ z8 n - 1 : Nat) : Int) = ((zay x p n : Nat) : Int) := by
 have e : (x : Int) / 2 ^ p.toNat = ((x / 2 ^ p.toNat : Nat) : Int) := by simp
 rw [e, u64_and_nat _ _ (Nat.lt_of_le_of_lt (Nat.div_le_self _ _) hx) (zon n), Nat.and_two_pow_sub_one_eq_mod]
 unfold zay; rw [if_neg h, if_neg (by omega)]
def ibit (x : Nat) (i : Int) : Bool := decide (0 ≤ i) && decide (i < 64) && x.testBit i.toNat
theorem zrz (x : Nat) (k : Nat) (h : k < 64) : ibit x k = x.testBit k := by
 unfold ibit
 have h1 : decide ((0 : Int) ≤ (k : Int)) = true := by simp
 have h2 : decide ((k : Int) < 64) = true := by simp; omega
 rw [h1, h2]; simp
theorem zr0 (x : Nat) (i : Int) (hx : x < 18446744073709551616) (h : 0 ≤ i) (h2 : i < 64) :
  (bits BinOp.and IntKind.u64 ((x : Int) / 2 ^ i.toNat) 1 == 1) = ibit x i := by
 have e : (x : Int) / 2 ^ i.toNat = ((x / 2 ^ i.toNat : Nat) : Int) := by simp
 rw [e]
 have e2 := u64_and_nat (x / 2 ^ i.toNat) 1 (Nat.lt_of_le_of_lt (Nat.div_le_self _ _) hx) (by omega)
 have e3 : bits BinOp.and IntKind.u64 ((x / 2 ^ i.toNat : Nat) : Int) 1 = ((x / 2 ^ i.toNat % 2 : Nat) : Int) := by
  have := e2; rw [Nat.and_one_is_mod] at this; exact this
 rw [e3]
 unfold ibit
 rw [Nat.testBit_eq_decide_div_mod_eq]
 have h1 : decide ((0 : Int) ≤ i) = true := by simp; omega
 have h3 : decide (i < 64) = true := by simp; omega
 rw [h1, h3]
 rcases Nat.mod_two_eq_zero_or_one (x / 2 ^ i.toNat) with h0 | h0 <;> rw [h0] <;> rfl
def need (x : Nat) : Nat := Lib.bitLen x
theorem zlu {a b : Nat} (h : (2 : Nat) ^ a < 2 ^ b) : a < b := (Nat.pow_lt_pow_iff_right (by omega)).1 h
theorem zdj (x : Nat) (hx : x < 18446744073709551616) : x < 2 ^ need x ∧ (need x ≠ 0 → 2 ^ (need x - 1) ≤ x) ∧ need x ≤ 64 := by
 unfold need
 have h64 : (18446744073709551616 : Nat) = 2 ^ 64 := by decide
 by_cases h0 : x = 0
 ·subst h0; refine ⟨by decide, ?_, by decide⟩
  intro h; exact absurd (show Lib.bitLen 0 = 0 by decide) h
 ·have h := Lib.bitLenAux_bounds 64 x (by rw [← h64]; exact hx) h0
  have h1 : Lib.bitLen x = Lib.bitLenAux 64 x := rfl
  rw [h1]
  refine ⟨h.2.2, fun _ => h.2.1, ?_⟩
  have : (2 : Nat) ^ (Lib.bitLenAux 64 x - 1) < 2 ^ 64 := Nat.lt_of_le_of_lt h.2.1 (by rw [← h64]; exact hx)
  have := zlu this
  omega
theorem zlv {x a b : Nat} (h1 : x < 2 ^ a) (h2 : a ≠ 0 → 2 ^ (a - 1) ≤ x) (h3 : x < 2 ^ b) (h4 : b ≠ 0 → 2 ^ (b - 1) ≤ x) : a = b := by
 rcases Nat.lt_trichotomy a b with h | h | h
 ·have h5 := h4 (by omega)
  have h6 : (2 : Nat) ^ a ≤ 2 ^ (b - 1) := Nat.pow_le_pow_right (by omega) (by omega)
  omega
 ·exact h
 ·have h5 := h2 (by omega)
  have h6 : (2 : Nat) ^ b ≤ 2 ^ (a - 1) := Nat.pow_le_pow_right (by omega) (by omega)
  omega
theorem zc8 (x n : Nat) (hx : x < 18446744073709551616) : need x ≤ n ↔ x < 2 ^ n := by
 have k := zdj x hx
 constructor
 ·intro h; exact Nat.lt_of_lt_of_le k.1 (Nat.pow_le_pow_right (by omega) h)
 ·intro h
  by_cases h0 : need x = 0
  ·omega
  ·have := Nat.lt_of_le_of_lt (k.2.1 h0) h
   have := zlu this
   omega
end L
namespace L
def zb (bs : List Bool) (i : Nat) : Bool := bs[i]?.getD false
def num : List Bool → Nat
 | [] => 0
 | b :: l => b.toNat + 2 * num l
theorem zm6 : ∀ l : List Bool, num l < 2 ^ l.length
 | [] => by simp [num]
 | b :: l => by
   have h1 := zm6 l
   have h2 : 2 ^ (l.length + 1) = 2 ^ l.length * 2 := Nat.pow_succ _ _
   have h3 := Bool.toNat_le b
   simp only [num, List.length_cons]; omega
theorem zfy : ∀ (l : List Bool) (i : Nat), (num l).testBit i = zb l i
 | [], i => by simp [num, zb]
 | b :: l, 0 => by
   have : (num (b :: l)) % 2 = b.toNat := by simp only [num]; have := Bool.toNat_lt b; omega
   rw [Nat.testBit_zero, this]; cases b <;> rfl
 | b :: l, i + 1 => by
   have : (num (b :: l)) / 2 = num l := by simp only [num]; have := Bool.toNat_lt b; omega
   rw [Nat.testBit_succ, this, zfy l i]; simp [zb]
def zh (n : Nat) : Nat := (n + 63) / 64
def zk (bs : List Bool) (i : Nat) : Nat := num ((bs.drop (64 * i)).take 64)
def words (bs : List Bool) : List Nat := (List.range (zh bs.length)).map (zk bs)
def bitsOf (v n : Nat) : List Bool := (List.range n).map v.testBit
theorem zc5 (bs : List Bool) (k n i : Nat) : zb ((bs.drop k).take n) i = (decide (i < n) && zb bs (k + i)) := by
 unfold zb
 rw [List.getElem?_take]
 by_cases h : i < n
 ·rw [if_pos h, List.getElem?_drop]; simp [h]
 ·rw [if_neg h]; simp [h]
theorem zaq (bs : List Bool) (i j : Nat) : (zk bs i).testBit j = (decide (j < 64) && zb bs (64 * i + j)) := by
 unfold zk; rw [zfy, zc5]
theorem za3 (bs : List Bool) (i : Nat) : zk bs i < 18446744073709551616 := by
 have h1 := zm6 ((bs.drop (64 * i)).take 64)
 have h2 : ((bs.drop (64 * i)).take 64).length ≤ 64 := by rw [List.length_take]; omega
 have h3 := zcu h2
 unfold zk; omega
theorem zao (bs : List Bool) : (words bs).length = zh bs.length := by simp [words]
theorem za6 (bs : List Bool) {i : Nat} (h : i < zh bs.length) : (words bs)[i]? = some (zk bs i) := by
 simp [words, List.getElem?_range h]
theorem zq (v n : Nat) : (bitsOf v n).length = n := by simp [bitsOf]
theorem zcv (v n i : Nat) : zb (bitsOf v n) i = (decide (i < n) && v.testBit i) := by
 unfold zb bitsOf
 by_cases h : i < n
 ·simp [List.getElem?_range h, h]
 ·simp [List.getElem?_eq_none (show (List.range n).length ≤ i by simp; omega), h]
theorem zdd (a b : List Bool) (i : Nat) : zb (a ++ b) i = if i < a.length then zb a i else zb b (i - a.length) := by
 unfold zb
 by_cases h : i < a.length
 ·rw [if_pos h, List.getElem?_append_left h]
 ·rw [if_neg h, List.getElem?_append_right (by omega)]
theorem ze1 (a : List Bool) (i : Nat) (h : a.length ≤ i) : zb a i = false := by
 unfold zb; rw [List.getElem?_eq_none h]; rfl
theorem zf9 (a : List Bool) (i : Nat) (h : i < a.length) : a[i]? = some (zb a i) := by
 unfold zb; rw [List.getElem?_eq_getElem h]; rfl
theorem ziw {a b : List Bool} (hl : a.length = b.length) (h : ∀ i, i < a.length → zb a i = zb b i) : a = b := by
 apply List.ext_getElem? ; intro i
 rcases Nat.lt_or_ge i a.length with h1 | h1
 ·rw [zf9 a i h1, zf9 b i (by omega), h i h1]
 ·rw [List.getElem?_eq_none h1, List.getElem?_eq_none (by omega)]
theorem zej {v n j : Nat} (h : v < 2 ^ n) (hj : n ≤ j) : v.testBit j = false :=
 Nat.testBit_lt_two_pow (Nat.lt_of_lt_of_le h (Nat.pow_le_pow_right (by omega) hj))
theorem zgm (bs : List Bool) (v n i j : Nat) (hv : v < 2 ^ n) : (zk (bs ++ bitsOf v n) i).testBit j = (decide (j < 64) && if 64 * i + j < bs.length then zb bs (64 * i + j) else v.testBit (64 * i + j - bs.length)) := by
 rw [zaq, zdd, zcv]
 by_cases h : 64 * i + j < bs.length
 ·simp only [h, if_true]
 ·simp only [h, if_false]
  by_cases h2 : 64 * i + j - bs.length < n
  ·simp [h2]
  ·have h3 := zej (j := 64 * i + j - bs.length) hv (by omega)
   simp [h2, h3]
theorem zhz (bs cs : List Bool) (i : Nat) (h : 64 * (i + 1) ≤ bs.length) : zk (bs ++ cs) i = zk bs i := by
 apply Nat.eq_of_testBit_eq; intro j
 rw [zaq, zaq]
 by_cases hj : j < 64
 ·rw [zdd, if_pos (by omega)]
 ·simp [hj]
theorem zq1 (bs : List Bool) (v n : Nat) (hb : bs.length % 64 = 0) (h0 : 0 < n) (hn : n ≤ 64) (hv : v < 2 ^ n) : words (bs ++ bitsOf v n) = words bs ++ [v] := by
 have hq : zh bs.length = bs.length / 64 := by unfold zh; omega
 have hq2 : zh (bs ++ bitsOf v n).length = bs.length / 64 + 1 := by rw [List.length_append, zq]; unfold zh; omega
 apply List.ext_getElem?; intro i
 rcases Nat.lt_trichotomy i (bs.length / 64) with h | h | h
 ·rw [za6 _ (by omega), List.getElem?_append_left (by rw [zao]; omega), za6 _ (by omega), zhz _ _ _ (by omega)]
 ·rw [za6 _ (by omega), List.getElem?_append_right (by rw [zao]; omega), zao, hq, h]
  simp only [Nat.sub_self, List.getElem?_cons_zero, Option.some.injEq]
  apply Nat.eq_of_testBit_eq; intro j
  rw [zgm _ _ _ _ _ hv, if_neg (by omega)]
  have : 64 * (bs.length / 64) + j - bs.length = j := by omega
  rw [this]
  by_cases hj : j < 64
  ·simp [hj]
  ·have h3 := zej (j := j) hv (by omega)
   simp [hj, h3]
 ·rw [List.getElem?_eq_none (by rw [zao]; omega), List.getElem?_eq_none (by rw [List.length_append, zao]; simp; omega)]
def zc2 (bs : List Bool) (v : Nat) : Nat := zk bs (bs.length / 64) ||| (v * 2 ^ (bs.length % 64) % 18446744073709551616)
theorem zm7 (bs : List Bool) (v n : Nat) (hn : n ≤ 64) (hv : v < 2 ^ n) : zk (bs ++ bitsOf v n) (bs.length / 64) = zc2 bs v := by
 unfold zc2
 apply Nat.eq_of_testBit_eq; intro j
 rw [zgm _ _ _ _ _ hv, Nat.testBit_or, zaq, show (18446744073709551616 : Nat) = 2 ^ 64 from by decide, Nat.testBit_mod_two_pow, Nat.testBit_mul_two_pow]
 by_cases hj : j < 64
 ·by_cases h : 64 * (bs.length / 64) + j < bs.length
  ·have h1 : ¬ bs.length % 64 ≤ j := by omega
   simp [hj, h, h1]
  ·have h1 : bs.length % 64 ≤ j := by omega
   have h2 : 64 * (bs.length / 64) + j - bs.length = j - bs.length % 64 := by omega
   simp [hj, h, h1, h2, ze1 bs _ (show bs.length ≤ 64 * (bs.length / 64) + j by omega)]
 ·simp [hj]
theorem zr1 (bs : List Bool) (v n : Nat) (hb : bs.length % 64 ≠ 0) (hn : bs.length % 64 + n ≤ 64) (hv : v < 2 ^ n) :
  words (bs ++ bitsOf v n) = (words bs).set (bs.length / 64) (zc2 bs v) := by
 have hq : zh bs.length = bs.length / 64 + 1 := by unfold zh; omega
 have hq2 : zh (bs ++ bitsOf v n).length = bs.length / 64 + 1 := by rw [List.length_append, zq]; unfold zh; omega
 apply List.ext_getElem?; intro i
 rw [List.getElem?_set]
 rcases Nat.lt_trichotomy i (bs.length / 64) with h | h | h
 ·rw [if_neg (by omega), za6 _ (by omega), za6 _ (by omega), zhz _ _ _ (by omega)]
 ·subst h
  rw [if_pos rfl, if_pos (by rw [zao]; omega), za6 _ (by omega), zm7 _ _ _ (by omega) hv]
 ·rw [if_neg (by omega), List.getElem?_eq_none (by rw [zao]; omega), List.getElem?_eq_none (by rw [zao]; omega)]
theorem zoo (bs : List Bool) (v n : Nat) (hb : bs.length % 64 ≠ 0) (hn : 64 < bs.length % 64 + n) (hn' : n ≤ 64) (hv : v < 2 ^ n) :
  words (bs ++ bitsOf v n) = (words bs).set (bs.length / 64) (zc2 bs v) ++ [v / 2 ^ (64 - bs.length % 64)] := by
 have hq : zh bs.length = bs.length / 64 + 1 := by unfold zh; omega
 have hq2 : zh (bs ++ bitsOf v n).length = bs.length / 64 + 2 := by rw [List.length_append, zq]; unfold zh; omega
 have hl : ((words bs).set (bs.length / 64) (zc2 bs v)).length = bs.length / 64 + 1 := by rw [List.length_set, zao, hq]
 apply List.ext_getElem?; intro i
 rcases Nat.lt_trichotomy i (bs.length / 64 + 1) with h | h | h
 ·rw [List.getElem?_append_left (by omega), List.getElem?_set]
  rcases Nat.lt_or_ge i (bs.length / 64) with h1 | h1
  ·rw [if_neg (by omega), za6 _ (by omega), za6 _ (by omega), zhz _ _ _ (by omega)]
  ·have : i = bs.length / 64 := by omega
   subst this
   rw [if_pos rfl, if_pos (by rw [zao]; omega), za6 _ (by omega), zm7 _ _ _ hn' hv]
 ·rw [List.getElem?_append_right (by omega), za6 _ (by omega), hl, h]
  simp only [Nat.sub_self, List.getElem?_cons_zero, Option.some.injEq]
  apply Nat.eq_of_testBit_eq; intro j
  rw [zgm _ _ _ _ _ hv, if_neg (by omega), Nat.testBit_div_two_pow]
  have : 64 * (bs.length / 64 + 1) + j - bs.length = j + (64 - bs.length % 64) := by omega
  rw [this]
  by_cases hj : j < 64
  ·simp [hj]
  ·have h3 := zej (j := j + (64 - bs.length % 64)) hv (by omega)
   simp [hj, h3]
 ·rw [List.getElem?_eq_none (by rw [zao]; omega), List.getElem?_eq_none (by rw [List.length_append, hl]; simp; omega)]
end L
namespace L
def fld (bs : List Bool) (p n : Nat) : Nat := num ((bs.drop p).take n)
theorem fld_testBit (bs : List Bool) (p n j : Nat) : (fld bs p n).testBit j = (decide (j < n) && zb bs (p + j)) := by unfold fld; rw [zfy, zc5]
theorem zes (bs : List Bool) (p n : Nat) : fld bs p n < 2 ^ n := by
 have h1 := zm6 ((bs.drop p).take n)
 have h2 : ((bs.drop p).take n).length ≤ n := by rw [List.length_take]; omega
 have h3 : (2 : Nat) ^ ((bs.drop p).take n).length ≤ 2 ^ n := Nat.pow_le_pow_right (by omega) h2
 unfold fld; omega
theorem fld_lt64 (bs : List Bool) (p n : Nat) (h : n ≤ 64) : fld bs p n < 18446744073709551616 := Nat.lt_of_lt_of_le (zes bs p n) (zcu h)
theorem zr2 (bs : List Bool) (p : Nat) : fld bs p 0 = 0 := by simp [fld, num]
theorem zq2 (bs : List Bool) (i : Nat) : zk bs i = fld bs (64 * i) 64 := rfl
theorem zgq (bs : List Bool) (p n : Nat) (h : p + n ≤ bs.length) : bitsOf (fld bs p n) n = (bs.drop p).take n := by
 apply ziw
 ·rw [zq, List.length_take, List.length_drop]; omega
 ·intro i hi
  rw [zq] at hi
  rw [zcv, fld_testBit, zc5]; simp [hi]
theorem z1l (bs : List Bool) (p n : Nat) : fld bs p (n + 1) = if zb bs (p + n) then fld bs p n ||| 2 ^ n else fld bs p n := by
 apply Nat.eq_of_testBit_eq; intro j
 rw [fld_testBit]
 cases hb : zb bs (p + n)
 ·simp only [Bool.false_eq_true, if_false, fld_testBit]
  rcases Nat.lt_trichotomy j n with h | h | h
  ·have h1 : j < n + 1 := by omega
   simp [h, h1]
  ·subst h; simp [hb]
  ·have h1 : ¬ j < n + 1 := by omega
   have h2 : ¬ j < n := by omega
   simp [h1, h2]
 ·simp only [if_true, Nat.testBit_or, fld_testBit, Nat.testBit_two_pow]
  rcases Nat.lt_trichotomy j n with h | h | h
  ·have h1 : j < n + 1 := by omega
   have h2 : ¬ n = j := by omega
   simp [h, h1, h2]
  ·subst h; simp [hb]
  ·have h1 : ¬ j < n + 1 := by omega
   have h2 : ¬ j < n := by omega
   have h3 : ¬ n = j := by omega
   simp [h1, h2, h3]
theorem zde (x : Nat) (p : Nat) (n : Nat) (hp : p < 64) (hn : 1 ≤ n) (hn' : n ≤ 64) (j : Nat) : (zay x (p : Nat) (n : Nat)).testBit j = (decide (j < n) && x.testBit (p + j)) := by
 unfold zay
 rw [if_neg (by omega), if_neg (by omega), zm5 hn', Nat.testBit_mod_two_pow, Int.toNat_natCast, Nat.testBit_div_two_pow, Nat.add_comm j p]
theorem zpv (x : Nat) (p n : Int) (hx : x < 18446744073709551616) : zay x p n < 18446744073709551616 := by
 unfold zay
 split
 ·omega
 ·split
  ·exact Nat.lt_of_lt_of_le (Nat.mod_lt _ (Nat.two_pow_pos _)) (zcu (zd6 n))
  ·exact Nat.lt_of_lt_of_le (Nat.mod_lt _ (Nat.two_pow_pos _)) (zcu (zd6 n))
theorem z1m (bs : List Bool) (p n : Nat) (hn : 1 ≤ n) (h : p % 64 + n ≤ 64) : zay (zk bs (p / 64)) ((p % 64 : Nat) : Int) (n : Nat) = fld bs p n := by
 apply Nat.eq_of_testBit_eq; intro j
 rw [zde _ _ _ (by omega) hn (by omega), fld_testBit, zaq]
 by_cases hj : j < n
 ·have h1 : p % 64 + j < 64 := by omega
  have h2 : 64 * (p / 64) + (p % 64 + j) = p + j := by omega
  simp [hj, h1, h2]
 ·simp [hj]
theorem zxc (bs : List Bool) (p n : Nat) (hn : n ≤ 64) (h : 64 < p % 64 + n) :
  zay (zk bs (p / 64)) ((p % 64 : Nat) : Int) (n : Nat) ||| (zay (zk bs (p / 64 + 1)) ((0 : Nat) : Int) ((p % 64 + n - 64 : Nat) : Int) * 2 ^ (64 - p % 64) % 18446744073709551616) = fld bs p n := by
 apply Nat.eq_of_testBit_eq; intro j
 rw [Nat.testBit_or, zde _ _ _ (by omega) (by omega) hn, show (18446744073709551616 : Nat) = 2 ^ 64 from by decide, Nat.testBit_mod_two_pow, Nat.testBit_mul_two_pow,
  zde _ _ _ (by omega) (by omega) (by omega), fld_testBit, zaq, zaq]
 by_cases hj : j < n
 ·by_cases h1 : p % 64 + j < 64
  ·have h2 : 64 * (p / 64) + (p % 64 + j) = p + j := by omega
   have h3 : ¬ 64 - p % 64 ≤ j := by omega
   simp [hj, h1, h2, h3]
  ·have h3 : 64 - p % 64 ≤ j := by omega
   have h4 : j < 64 := by omega
   have h5 : j - (64 - p % 64) < p % 64 + n - 64 := by omega
   have h6 : j - (64 - p % 64) < 64 := by omega
   have h7 : 64 * (p / 64 + 1) + (j - (64 - p % 64)) = p + j := by omega
   simp [hj, h1, h3, h4, h5, h6, h7]
 ·have h5 : ¬ j - (64 - p % 64) < p % 64 + n - 64 := by omega
  simp [hj, h5]
def leB (v k : Nat) : List UInt8 := (List.range k).map fun i => UInt8.ofNat (v / 256 ^ i)
theorem zfr (v k : Nat) : leB v (k + 1) = leB v k ++ [UInt8.ofNat (v / 256 ^ k)] := by simp [leB, List.range_succ]
theorem ze (v k : Nat) : (leB v k).length = k := by simp [leB]
theorem byteCells_append (a b : List UInt8) : Lib.byteCells (a ++ b) = Lib.byteCells a ++ Lib.byteCells b := by simp [Lib.byteCells]
theorem byteCells_one (x : Nat) : Lib.byteCells [UInt8.ofNat x] = [.int .u8 ((x % 256 : Nat) : Int)] := by simp [Lib.byteCells, UInt8.toNat_ofNat']
def zy (bs : List Bool) : List UInt8 := leB bs.length 8 ++ (words bs).flatMap (leB · 8)
def zbe (bs : List Bool) (k : Nat) : List UInt8 := leB bs.length 8 ++ ((words bs).take k).flatMap (leB · 8)
theorem zh7 (bs : List Bool) : zbe bs (zh bs.length) = zy bs := by
 unfold zbe zy; rw [List.take_of_length_le (by rw [zao]; omega)]
theorem zhi (bs : List Bool) (k : Nat) (h : k < zh bs.length) : zbe bs (k + 1) = zbe bs k ++ leB (zk bs k) 8 := by
 unfold zbe
 have hk : k < (words bs).length := by rw [zao]; exact h
 have := za6 bs h
 rw [List.getElem?_eq_getElem hk] at this
 injection this with this
 rw [List.take_succ_eq_append_getElem hk, List.flatMap_append, this, List.append_assoc]; simp
theorem zd7 : ∀ l : List Nat, (l.flatMap (leB · 8)).length = 8 * l.length
 | [] => rfl
 | a :: l => by rw [List.flatMap_cons, List.length_append, zd7 l, ze, List.length_cons]; omega
theorem zgo (bs : List Bool) (k : Nat) : (zbe bs k).length ≤ 8 + 8 * zh bs.length := by
 unfold zbe
 rw [List.length_append, ze, zd7, List.length_take, zao]; omega
def zd1 (bs : List Bool) (i : Int) : Nat := if i < 0 then 0 else zk bs i.toNat
theorem zd8 (bs : List Bool) (k : Nat) : zd1 bs (k : Int) = zk bs k := by unfold zd1; rw [if_neg (by omega), Int.toNat_natCast]
end L
def nats (l : List UInt8) : List Nat := l.map UInt8.toNat
theorem zh8 (l : List UInt8) : ∀ b ∈ nats l, b < 256 := by
 intro b hb
 obtain ⟨x, _, rfl⟩ := List.mem_map.1 hb
 exact UInt8.toNat_lt x
def leTo (s : ByteArray) (k : Nat) : Nat := L.nest (nats (s.data.toList.take k))
namespace L
theorem zj5 : ∀ (l : List Nat), (∀ b ∈ l, b < 256) → ∀ (q r : Nat), r < 8 → (nest l).testBit (8 * q + r) = (l[q]?.getD 0).testBit r
 | [], _, q, r, _ => by simp [nest]
 | b :: l, h, 0, r, hr => by
   have hb := h b List.mem_cons_self
   have e : nest (b :: l) % 2 ^ 8 = b := by simp only [nest]; omega
   have := Nat.testBit_mod_two_pow (nest (b :: l)) 8 r
   rw [e] at this
   simp [hr] at this
   simpa using this.symm
 | b :: l, h, q + 1, r, hr => by
   have ih := zj5 l (fun c hc => h c (List.mem_cons_of_mem _ hc)) q r hr
   have hb := h b List.mem_cons_self
   have e : nest (b :: l) / 2 ^ 8 = nest l := by simp only [nest]; omega
   have : (nest (b :: l) / 2 ^ 8).testBit (8 * q + r) = (nest (b :: l)).testBit (8 * q + r + 8) := Nat.testBit_div_two_pow _ _
   rw [e, ih] at this
   rw [show 8 * (q + 1) + r = 8 * q + r + 8 from by omega, ← this]
   simp
theorem z1n (x y n : Nat) (hx : x < 256) : leB (x + 256 * y) (n + 1) = UInt8.ofNat x :: leB y n := by
 unfold leB
 rw [List.range_succ_eq_map, List.map_cons, List.map_map]
 congr 1
 ·apply UInt8.toNat_inj.1
  rw [UInt8.toNat_ofNat', UInt8.toNat_ofNat', Nat.pow_zero, Nat.div_one]; omega
 ·apply List.map_congr_left
  intro i _
  simp only [Function.comp]
  rw [Nat.pow_succ, Nat.mul_comm (256 ^ i) 256, ← Nat.div_div_eq_div_mul, show (x + 256 * y) / 256 = y from by omega]
theorem zg3 : ∀ (l : List UInt8), leB (nest (nats l)) l.length = l
 | [] => rfl
 | b :: l => by
   have e0 : nest (nats (b :: l)) = b.toNat + 256 * nest (nats l) := rfl
   rw [e0, List.length_cons, z1n _ _ _ (UInt8.toNat_lt b), zg3 l]
   simp
theorem zix (k : Nat) : ∀ v : Nat, nest (nats (leB v k)) = v % 256 ^ k := by
 induction k with
 | zero => intro v; simp [leB, nats, nest, Nat.mod_one]
 | succ k ih =>
   intro v
   have e : nats (leB v (k + 1)) = v % 256 :: nats (leB (v / 256) k) := by
    unfold leB nats
    rw [List.range_succ_eq_map, List.map_cons, List.map_cons, List.map_map, List.map_map, List.map_map]
    congr 1
    ·simp [UInt8.toNat_ofNat']
    ·apply List.map_congr_left
     intro i _
     simp only [Function.comp]
     rw [Nat.pow_succ, Nat.mul_comm (256 ^ i) 256, ← Nat.div_div_eq_div_mul]
   rw [e, nest, ih, Nat.pow_succ, Nat.mul_comm (256 ^ k) 256, Nat.mod_mul]
def zb1 (l : List UInt8) (i : Nat) : Nat := nest (nats ((l.drop (8 + 8 * i)).take 8))
def valL (l : List UInt8) : Nat := nest (nats (l.take 8))
def zcb (l : List UInt8) (m : Nat) : List Bool := (List.range m).map fun i => (l[8 + i / 8]?.getD 0).toNat.testBit (i % 8)
theorem zcf (l : List UInt8) (m : Nat) : (zcb l m).length = m := by simp [zcb]
theorem zlw (l : List UInt8) (m i : Nat) (h : i < m) : zb (zcb l m) i = (l[8 + i / 8]?.getD 0).toNat.testBit (i % 8) := by
 unfold zb zcb; simp [List.getElem?_range h]
theorem zjh (l : List UInt8) (i j : Nat) (hj : j < 64) : (zb1 l i).testBit j = (l[8 + (64 * i + j) / 8]?.getD 0).toNat.testBit ((64 * i + j) % 8) := by
 unfold zb1
 have h := zj5 (nats ((l.drop (8 + 8 * i)).take 8)) (zh8 _) (j / 8) (j % 8) (by omega)
 rw [show 8 * (j / 8) + j % 8 = j from by omega] at h
 rw [h, nats, List.getElem?_map, List.getElem?_take, if_pos (by omega), List.getElem?_drop, show 8 + 8 * i + j / 8 = 8 + (64 * i + j) / 8 from by omega, show (64 * i + j) % 8 = j % 8 from by omega]
 cases l[8 + (64 * i + j) / 8]? <;> rfl
def zcj (l : List UInt8) : Prop := 8 ≤ l.length ∧ valL l ≤ 4294967296 ∧ l.length = 8 + 8 * zh (valL l) ∧ (valL l % 64 = 0 ∨ need (zb1 l (valL l / 64)) ≤ valL l % 64)
theorem zmg (l : List UInt8) (i : Nat) : zb1 l i < 18446744073709551616 := by
 have h := zh6 (nats ((l.drop (8 + 8 * i)).take 8)) (zh8 _)
 have h2 : (nats ((l.drop (8 + 8 * i)).take 8)).length ≤ 8 := by simp [nats, List.length_take]; omega
 have h3 : (256 : Nat) ^ (nats ((l.drop (8 + 8 * i)).take 8)).length ≤ 256 ^ 8 := Nat.pow_le_pow_right (by omega) h2
 have h4 : (256 : Nat) ^ 8 = 18446744073709551616 := by decide
 unfold zb1; omega
theorem zpw {l : List UInt8} (h : zcj l) {i : Nat} (hi : i < zh (valL l)) : zk (zcb l (valL l)) i = zb1 l i := by
 obtain ⟨h1, h2, h3, h4⟩ := h
 apply Nat.eq_of_testBit_eq; intro j
 rw [zaq]
 by_cases hj : j < 64
 ·by_cases hv : 64 * i + j < valL l
  ·rw [zlw _ _ _ hv, zjh _ _ _ hj]; simp [hj]
  ·rw [ze1 _ _ (by rw [zcf]; omega)]
   have hi2 : i = valL l / 64 := by unfold zh at hi; omega
   subst hi2
   have h5 : valL l % 64 ≠ 0 := by unfold zh at hi; omega
   have h6 := (zc8 _ _ (zmg l (valL l / 64))).1 (h4.resolve_left h5)
   have h7 := zej (j := j) h6 (by omega)
   simp [h7]
 ·have : (zb1 l i).testBit j = false := by
   apply Nat.testBit_lt_two_pow
   have := zmg l i
   have h64 : (18446744073709551616 : Nat) = 2 ^ 64 := by decide
   rw [h64] at this
   exact Nat.lt_of_lt_of_le this (Nat.pow_le_pow_right (by omega) (by omega))
  simp [hj, this]
theorem chunks : ∀ (m : Nat) (l : List UInt8), l.length = 8 * m → (List.range m).flatMap (fun i => (l.drop (8 * i)).take 8) = l
 | 0, l, h => by have : l = [] := List.eq_nil_of_length_eq_zero (by omega)
                 subst this; rfl
 | m + 1, l, h => by
   have ih := chunks m (l.drop 8) (by rw [List.length_drop]; omega)
   rw [List.range_succ_eq_map, List.flatMap_cons, List.flatMap_map]
   have e : ∀ i, (l.drop (8 * (i + 1))).take 8 = ((l.drop 8).drop (8 * i)).take 8 := fun i => by rw [List.drop_drop, show 8 * (i + 1) = 8 + 8 * i from by omega]
   simp only [Nat.succ_eq_add_one, e, ih]
   simp
theorem zm8 {l : List UInt8} (h : zcj l) : zy (zcb l (valL l)) = l := by
 have hg := h
 obtain ⟨h1, h2, h3, h4⟩ := h
 unfold zy
 rw [zcf]
 have e1 : leB (valL l) 8 = l.take 8 := by
  have := zg3 (l.take 8)
  rw [List.length_take, Nat.min_eq_left h1] at this
  exact this
 have e2 : words (zcb l (valL l)) = (List.range (zh (valL l))).map (zb1 l) := by
  unfold words
  rw [zcf]
  apply List.map_congr_left
  intro i hi
  exact zpw hg (List.mem_range.1 hi)
 have e3 : ((List.range (zh (valL l))).map (zb1 l)).flatMap (leB · 8) = l.drop 8 := by
  have hc := chunks (zh (valL l)) (l.drop 8) (by rw [List.length_drop]; omega)
  rw [List.flatMap_map]
  refine Eq.trans ?_ hc
  rw [List.flatMap_def, List.flatMap_def]
  congr 1
  apply List.map_congr_left
  intro i hi
  have hi' := List.mem_range.1 hi
  have := zg3 ((l.drop (8 + 8 * i)).take 8)
  rw [List.length_take, List.length_drop, Nat.min_eq_left (by omega)] at this
  rw [List.drop_drop]
  exact this
 rw [e1, e2, e3, List.take_append_drop]
theorem zj6 : ∀ (ws : List Nat) (i : Nat) (h : i < ws.length), ((ws.flatMap (leB · 8)).drop (8 * i)).take 8 = leB ws[i] 8
 | w :: ws, 0, _ => by
   rw [List.flatMap_cons]
   simp only [Nat.mul_zero, List.drop_zero, List.getElem_cons_zero]
   rw [List.take_append_of_le_length (by rw [ze]; omega), List.take_of_length_le (by rw [ze]; omega)]
 | w :: ws, i + 1, h => by
   rw [List.flatMap_cons, show 8 * (i + 1) = 8 + 8 * i from by omega, List.drop_append, ze]
   rw [List.drop_eq_nil_of_le (by rw [ze]; omega), List.nil_append, show 8 + 8 * i - 8 = 8 * i from by omega]
   exact zj6 ws i (by simpa using h)
theorem zh9 (bs : List Bool) (h : bs.length ≤ 4294967296) : valL (zy bs) = bs.length := by
 unfold valL zy
 rw [List.take_append_of_le_length (by rw [ze]; omega), List.take_of_length_le (by rw [ze]; omega), zix]
 exact Nat.mod_eq_of_lt (Nat.lt_of_le_of_lt h (by decide))
theorem zdo (bs : List Bool) : (zy bs).length = 8 + 8 * zh bs.length := by
 unfold zy; rw [List.length_append, ze, zd7, zao]
theorem zr3 (bs : List Bool) {i : Nat} (hi : i < zh bs.length) : zb1 (zy bs) i = zk bs i := by
 unfold zb1 zy
 rw [List.drop_append, ze, List.drop_eq_nil_of_le (by rw [ze]; omega), List.nil_append, show 8 + 8 * i - 8 = 8 * i from by omega, zj6 _ i (by rw [zao]; exact hi), zix]
 have := za6 bs hi
 rw [List.getElem?_eq_getElem (by rw [zao]; exact hi)] at this
 injection this with this
 rw [this]
 exact Nat.mod_eq_of_lt (Nat.lt_of_lt_of_eq (za3 bs i) (by decide))
theorem zr4 (bs : List Bool) : zcb (zy bs) bs.length = bs := by
 apply ziw
 ·rw [zcf]
 ·intro i hi
  rw [zcf] at hi
  have hw : i / 64 < zh bs.length := by unfold zh; omega
  have h1 := zjh (zy bs) (i / 64) (i % 64) (by omega)
  rw [show 64 * (i / 64) + i % 64 = i from by omega, zr3 bs hw, zaq, show 64 * (i / 64) + i % 64 = i from by omega] at h1
  have h64 : i % 64 < 64 := by omega
  rw [zlw _ _ _ hi, ← h1]; simp [h64]
theorem zr5 (bs : List Bool) (h : bs.length ≤ 4294967296) : zcj (zy bs) := by
 refine ⟨by rw [zdo]; omega, by rw [zh9 bs h]; exact h, by rw [zh9 bs h, zdo], ?_⟩
 rw [zh9 bs h]
 by_cases h0 : bs.length % 64 = 0
 ·exact .inl h0
 ·right
  rw [zr3 bs (by unfold zh; omega), zc8 _ _ (za3 _ _)]
  have := zm6 ((bs.drop (64 * (bs.length / 64))).take 64)
  rw [List.length_take, List.length_drop, show min 64 (bs.length - 64 * (bs.length / 64)) = bs.length % 64 from by omega] at this
  exact this
end L
end Go.Proofs.YtgpbpgpolpakjaaGreatDoor
namespace Go.Proofs.YtgpbpgpolpakjaaGreatDoor.L
def cnt (bs : List Bool) : Nat → Nat
 | 0 => 0
 | n + 1 => cnt bs n + (zb bs n).toNat
theorem zj7 (bs : List Bool) (n : Nat) : cnt bs n ≤ n := by
 induction n with
 | zero => simp [cnt]
 | succ n ih => have := Bool.toNat_le (zb bs n); simp only [cnt]; omega
theorem cnt_mono (bs : List Bool) {a b : Nat} (h : a ≤ b) : cnt bs a ≤ cnt bs b := by
 induction b with
 | zero => have : a = 0 := by omega
           subst this; exact Nat.le_refl _
 | succ b ih =>
   rcases Nat.lt_or_ge b a with h2 | h2
   ·have : a = b + 1 := by omega
    subst this; exact Nat.le_refl _
   ·have := ih h2; simp only [cnt]; omega
theorem zr6 (bs : List Bool) (a n : Nat) : cnt bs (a + n) ≤ cnt bs a + n := by
 induction n with
 | zero => simp
 | succ n ih => have := Bool.toNat_le (zb bs (a + n)); rw [← Nat.add_assoc]; simp only [cnt]; omega
theorem zy0 (bs : List Bool) (n : Nat) (h : bs.length ≤ n) : cnt bs n = cnt bs bs.length := by
 obtain ⟨d, rfl⟩ : ∃ d, n = bs.length + d := ⟨n - bs.length, by omega⟩
 clear h
 induction d with
 | zero => rfl
 | succ d ih => rw [← Nat.add_assoc]; simp only [cnt]; rw [ih, ze1 bs _ (by omega)]; simp
theorem zld (bs : List Bool) (n : Nat) : cnt bs n ≤ bs.length := by
 rcases Nat.lt_or_ge n bs.length with h | h
 ·have := zj7 bs n; omega
 ·rw [zy0 bs n h]; exact zj7 _ _
theorem zr7 (bs : List Bool) (i n : Nat) (h : n ≤ 64) : cnt bs (64 * i + n) = cnt bs (64 * i) + zi (zk bs i) n := by
 induction n with
 | zero => simp [zi]
 | succ n ih =>
   rw [← Nat.add_assoc]; simp only [cnt, zi]
   rw [ih (by omega), zaq]
   have : decide (n < 64) = true := by simp; omega
   rw [this, Bool.true_and]; omega
def packed (bs : List Bool) (b : Nat) : Nat → Nat
 | 0 => 0
 | m + 1 => packed bs b m + (cnt bs (512 * b + 64 * (m + 1)) - cnt bs (512 * b)) * 2 ^ (9 * m)
theorem zm9 (bs : List Bool) (b m : Nat) (h : m ≤ 7) : cnt bs (512 * b + 64 * m) - cnt bs (512 * b) < 512 := by
 have := zr6 bs (512 * b) (64 * m); omega
theorem zhj (bs : List Bool) (b : Nat) : ∀ m, m ≤ 7 → packed bs b m < 2 ^ (9 * m)
 | 0, _ => by simp [packed]
 | m + 1, h => by
   have ih := zhj bs b m (by omega)
   have h1 := zm9 bs b (m + 1) h
   have e : 2 ^ (9 * (m + 1)) = 512 * 2 ^ (9 * m) := by rw [show 9 * (m + 1) = 9 + 9 * m from by omega, Nat.pow_add]
   rw [e]; simp only [packed]
   have h2 : (cnt bs (512 * b + 64 * (m + 1)) - cnt bs (512 * b)) * 2 ^ (9 * m) ≤ 511 * 2 ^ (9 * m) := Nat.mul_le_mul_right _ (by omega)
   omega
theorem zh0 (bs : List Bool) (b m : Nat) (h : m ≤ 7) : packed bs b m < 9223372036854775808 := by
 have h1 := zhj bs b m h
 have h2 : (2 : Nat) ^ (9 * m) ≤ 2 ^ 63 := Nat.pow_le_pow_right (by omega) (by omega)
 omega
theorem zj8 (bs : List Bool) (b j : Nat) : ∀ m, m ≤ 7 → j < m → packed bs b m / 2 ^ (9 * j) % 512 = cnt bs (512 * b + 64 * (j + 1)) - cnt bs (512 * b)
 | 0, _, h => by omega
 | m + 1, h, hj => by
   have h1 := zm9 bs b (m + 1) h
   simp only [packed]
   rcases Nat.lt_or_ge j m with h2 | h2
   ·have ih := zj8 bs b j m (by omega) h2
    have e : 2 ^ (9 * m) = 2 ^ (9 * j) * (512 * 2 ^ (9 * (m - j - 1))) := by
     rw [show (512 : Nat) = 2 ^ 9 from rfl, ← Nat.pow_add, ← Nat.pow_add]; congr 1; omega
    rw [e]
    generalize cnt bs (512 * b + 64 * (m + 1)) - cnt bs (512 * b) = c at *
    rw [Nat.mul_left_comm c, Nat.mul_left_comm c 512, Nat.add_mul_div_left _ _ (Nat.two_pow_pos _), Nat.add_mul_mod_self_left]
    exact ih
   ·have : j = m := by omega
    subst this
    have h3 := zhj bs b j (by omega)
    rw [Nat.mul_comm, Nat.add_mul_div_left _ _ (Nat.two_pow_pos _), Nat.div_eq_of_lt h3, Nat.zero_add]
    exact Nat.mod_eq_of_lt h1
theorem zy1 (bs : List Bool) (b m : Nat) (h : m < 7) : packed bs b m ||| ((cnt bs (512 * b + 64 * (m + 1)) - cnt bs (512 * b)) * 2 ^ (9 * m) % 18446744073709551616) = packed bs b (m + 1) := by
 have h1 := zhj bs b m (by omega)
 have h2 := zh0 bs b (m + 1) (by omega)
 simp only [packed] at h2 ⊢
 rw [Nat.mod_eq_of_lt (by omega), Nat.or_comm, Nat.mul_comm, ← Nat.two_pow_add_eq_or_of_lt h1]
 omega
def held (n : Nat) (i : Int) : Nat := (min (max i 0) n).toNat
theorem zia (n : Nat) (i : Int) : held n i ≤ n := by unfold held; omega
theorem zmh (n k : Nat) (h : k ≤ n) : held n (k : Nat) = k := by unfold held; omega
theorem zy2 (bs : List Bool) (p : Nat) : cnt bs p = cnt bs (512 * (p / 512)) + (if p / 64 % 8 = 0 then 0 else packed bs (p / 512) 7 / 2 ^ (9 * (p / 64 % 8 - 1)) % 512) + zi (zk bs (p / 64)) (p % 64) := by
 have h1 := zr7 bs (p / 64) (p % 64) (by omega)
 rw [show 64 * (p / 64) + p % 64 = p from by omega] at h1
 rw [h1]
 have h3 : 64 * (p / 64) = 512 * (p / 512) + 64 * (p / 64 % 8) := by omega
 by_cases h0 : p / 64 % 8 = 0
 ·rw [if_pos h0, h3, h0]; simp
 ·rw [if_neg h0, zj8 bs (p / 512) (p / 64 % 8 - 1) 7 (by omega) (by omega), show p / 64 % 8 - 1 + 1 = p / 64 % 8 from by omega, ← h3]
  have := cnt_mono bs (show 512 * (p / 512) ≤ 64 * (p / 64) by omega)
  omega
def entries (bs : List Bool) (n : Nat) : List Nat := (List.range n).flatMap fun b => [cnt bs (512 * b), packed bs b 7]
theorem zg4 (bs : List Bool) (n : Nat) : entries bs (n + 1) = entries bs n ++ [cnt bs (512 * n), packed bs n 7] := by simp [entries, List.range_succ]
theorem zfs (bs : List Bool) (n : Nat) : (entries bs n).length = 2 * n := by
 induction n with
 | zero => rfl
 | succ n ih => rw [zg4, List.length_append, ih]; simp; omega
theorem zuu (bs : List Bool) (n b : Nat) (h : b < n) : (entries bs n)[2 * b]? = some (cnt bs (512 * b)) ∧ (entries bs n)[2 * b + 1]? = some (packed bs b 7) := by
 induction n with
 | zero => omega
 | succ n ih =>
   have hl := zfs bs n
   rw [zg4]
   rcases Nat.lt_or_ge b n with h2 | h2
   ·obtain ⟨a1, a2⟩ := ih h2
    exact ⟨by rw [List.getElem?_append_left (by omega)]; exact a1, by rw [List.getElem?_append_left (by omega)]; exact a2⟩
   ·have : b = n := by omega
    subst this
    constructor
    ·rw [List.getElem?_append_right (by omega), hl, Nat.sub_self]; rfl
    ·rw [List.getElem?_append_right (by omega), hl, show 2 * b + 1 - 2 * b = 1 from by omega]; rfl
end Go.Proofs.YtgpbpgpolpakjaaGreatDoor.L
namespace Go.Proofs.YtgpbpgpolpakjaaGreatDoor.L
def sgn (b : Bool) : Int := if b then 1 else -1
def ex (f : Nat → Bool) : Nat → Int
 | 0 => 0
 | n + 1 => ex f n + sgn (f n)
def lo (f : Nat → Bool) : Nat → Int
 | 0 => 0
 | n + 1 => if n = 0 then ex f 1 else min (lo f n) (ex f (n + 1))
def hi (f : Nat → Bool) : Nat → Int
 | 0 => 0
 | n + 1 => if n = 0 then ex f 1 else max (hi f n) (ex f (n + 1))
def sh (f : Nat → Bool) (a : Nat) : Nat → Bool := fun i => f (a + i)
theorem z5c (b : Bool) : -1 ≤ sgn b ∧ sgn b ≤ 1 := by cases b <;> simp [sgn]
theorem zcp (f : Nat → Bool) (n : Nat) : -(n : Int) ≤ ex f n ∧ ex f n ≤ n := by
 induction n with
 | zero => simp [ex]
 | succ n ih => have := z5c (f n); simp only [ex]; omega
theorem zd9 {f g : Nat → Bool} (n : Nat) (h : ∀ i, i < n → f i = g i) : ex f n = ex g n := by
 induction n with
 | zero => rfl
 | succ n ih => simp only [ex]; rw [ih (fun i hi => h i (by omega)), h n (by omega)]
theorem zr8 {f g : Nat → Bool} (n : Nat) (h : ∀ i, i < n → f i = g i) : lo f n = lo g n := by
 induction n with
 | zero => rfl
 | succ n ih =>
   simp only [lo]
   rw [ih (fun i hi => h i (by omega)), zd9 (n + 1) h, zd9 (f := f) (g := g) 1 (fun i hi => h i (by omega))]
theorem zr9 {f g : Nat → Bool} (n : Nat) (h : ∀ i, i < n → f i = g i) : hi f n = hi g n := by
 induction n with
 | zero => rfl
 | succ n ih =>
   simp only [hi]
   rw [ih (fun i hi => h i (by omega)), zd9 (n + 1) h, zd9 (f := f) (g := g) 1 (fun i hi => h i (by omega))]
theorem zea (f : Nat → Bool) (a b : Nat) : ex f (a + b) = ex f a + ex (sh f a) b := by
 induction b with
 | zero => simp [ex]
 | succ b ih => rw [← Nat.add_assoc]; simp only [ex]; rw [ih]; simp only [sh]; omega
theorem zg5 (f : Nat → Bool) (n : Nat) : -(n : Int) ≤ lo f n ∧ lo f n ≤ n := by
 induction n with
 | zero => simp [lo]
 | succ n ih =>
   have h1 := zcp f (n + 1)
   have h2 := zcp f 1
   simp only [lo]
   split <;> omega
theorem ziy (f : Nat → Bool) (n : Nat) : -(n : Int) ≤ hi f n ∧ hi f n ≤ n := by
 induction n with
 | zero => simp [hi]
 | succ n ih =>
   have h1 := zcp f (n + 1)
   have h2 := zcp f 1
   simp only [hi]
   split <;> omega
theorem zy3 (f : Nat → Bool) (a b : Nat) (ha : 0 < a) (hb : 0 < b) : lo f (a + b) = min (lo f a) (lo (sh f a) b + ex f a) := by
 induction b with
 | zero => omega
 | succ b ih =>
   rw [← Nat.add_assoc]
   simp only [lo]
   rw [if_neg (by omega)]
   by_cases h0 : b = 0
   ·subst h0; rw [if_pos rfl]; simp only [Nat.add_zero, lo]
    have := zea f a 1
    rw [this]; omega
   ·rw [if_neg h0, ih (by omega), Nat.add_assoc, zea f a (b + 1)]; omega
theorem zy4 (f : Nat → Bool) (a b : Nat) (ha : 0 < a) (hb : 0 < b) : hi f (a + b) = max (hi f a) (hi (sh f a) b + ex f a) := by
 induction b with
 | zero => omega
 | succ b ih =>
   rw [← Nat.add_assoc]
   simp only [hi]
   rw [if_neg (by omega)]
   by_cases h0 : b = 0
   ·subst h0; rw [if_pos rfl]; simp only [Nat.add_zero, hi]
    have := zea f a 1
    rw [this]; omega
   ·rw [if_neg h0, ih (by omega), Nat.add_assoc, zea f a (b + 1)]; omega
theorem z5d (w n : Nat) : ex w.testBit n = 2 * (zi w n : Int) - n := by
 induction n with
 | zero => simp [ex, zi]
 | succ n ih => simp only [ex, zi]; rw [ih]; cases w.testBit n <;> simp [sgn] <;> omega
def lo64 (f : Nat → Bool) (n : Nat) : Int := if n = 0 then 64 else lo f n
def hi64 (f : Nat → Bool) (n : Nat) : Int := if n = 0 then -64 else hi f n
theorem zy5 (f : Nat → Bool) (n : Nat) (h : n < 64) : lo64 f (n + 1) = min (lo64 f n) (ex f (n + 1)) := by
 have := zcp f 1
 unfold lo64
 rw [if_neg (by omega)]
 simp only [lo]
 by_cases h0 : n = 0
 ·subst h0; simp only [if_true, Nat.zero_add]; omega
 ·rw [if_neg h0, if_neg h0]
theorem zy6 (f : Nat → Bool) (n : Nat) (h : n < 64) : hi64 f (n + 1) = max (hi64 f n) (ex f (n + 1)) := by
 have := zcp f 1
 unfold hi64
 rw [if_neg (by omega)]
 simp only [hi]
 by_cases h0 : n = 0
 ·subst h0; simp only [if_true, Nat.zero_add]; omega
 ·rw [if_neg h0, if_neg h0]
end Go.Proofs.YtgpbpgpolpakjaaGreatDoor.L
namespace Go.Proofs.YtgpbpgpolpakjaaGreatDoor.L
def m1 : Nat := 6148914691236517205
def m2 : Nat := 3689348814741910323
def m4 : Nat := 1085102592571150095
end Go.Proofs.YtgpbpgpolpakjaaGreatDoor.L
namespace Go.Proofs.YtgpbpgpolpakjaaGreatDoor.L
theorem z4s (f : Nat → Bool) (c : Int) (n : Nat) (h : 0 < n) : c ≤ lo f n ↔ ∀ k, 0 < k → k ≤ n → c ≤ ex f k := by
 induction n with
 | zero => omega
 | succ n ih =>
   simp only [lo]
   by_cases h0 : n = 0
   ·subst h0; rw [if_pos rfl]
    constructor
    ·intro h k h1 h2
     have : k = 1 := by omega
     subst this; exact h
    ·intro h; exact h 1 (by omega) (by omega)
   ·rw [if_neg h0]
    have ih := ih (by omega)
    constructor
    ·intro h k h1 h2
     rcases Nat.lt_or_ge n k with h3 | h3
     ·have : k = n + 1 := by omega
      subst this; omega
     ·exact (ih.1 (by omega)) k h1 h3
    ·intro h
     have h1 := ih.2 (fun k a b => h k a (by omega))
     have h2 := h (n + 1) (by omega) (by omega)
     omega
theorem z8u (f : Nat → Bool) (c : Int) (n : Nat) (h : 0 < n) : hi f n ≤ c ↔ ∀ k, 0 < k → k ≤ n → ex f k ≤ c := by
 induction n with
 | zero => omega
 | succ n ih =>
   simp only [hi]
   by_cases h0 : n = 0
   ·subst h0; rw [if_pos rfl]
    constructor
    ·intro h k h1 h2
     have : k = 1 := by omega
     subst this; exact h
    ·intro h; exact h 1 (by omega) (by omega)
   ·rw [if_neg h0]
    have ih := ih (by omega)
    constructor
    ·intro h k h1 h2
     rcases Nat.lt_or_ge n k with h3 | h3
     ·have : k = n + 1 := by omega
      subst this; omega
     ·exact (ih.1 (by omega)) k h1 h3
    ·intro h
     have h1 := ih.2 (fun k a b => h k a (by omega))
     have h2 := h (n + 1) (by omega) (by omega)
     omega
def rv (f : Nat → Bool) (b : Nat) : Nat → Bool := fun i => f (b - 1 - i)
def bal (f : Nat → Bool) (n : Nat) : Bool := decide (ex f n = 0) && decide (0 ≤ lo f n)
theorem z5e (f : Nat → Bool) : lo f 0 = 0 := rfl
theorem z5f (f : Nat → Bool) (n : Nat) : bal f n = true ↔ ex f n = 0 ∧ ∀ k, k ≤ n → 0 ≤ ex f k := by
 unfold bal
 rw [Bool.and_eq_true, decide_eq_true_eq, decide_eq_true_eq]
 rcases Nat.eq_zero_or_pos n with h | h
 ·subst h
  constructor
  ·intro _
   refine ⟨rfl, fun k hk => ?_⟩
   have : k = 0 := by omega
   subst this; exact Int.le_refl _
  ·intro _; exact ⟨rfl, by rw [z5e]; exact Int.le_refl _⟩
 ·rw [z4s f 0 n h]
  constructor
  ·intro ⟨h1, h2⟩
   refine ⟨h1, fun k hk => ?_⟩
   rcases Nat.eq_zero_or_pos k with h3 | h3
   ·subst h3; exact Int.le_refl _
   ·exact h2 k h3 hk
  ·intro ⟨h1, h2⟩; exact ⟨h1, fun k _ hk => h2 k hk⟩
end Go.Proofs.YtgpbpgpolpakjaaGreatDoor.L
namespace Go.Proofs.YtgpbpgpolpakjaaGreatDoor.L
def zhk (x : Nat) (k : Int) : Nat → Nat
 | 0 => 64
 | n + 1 => if zhk x k n < 64 then zhk x k n else if x.testBit n ∧ (zi x n : Int) = k then n else 64
def selN (x : Nat) (k : Int) : Nat := zhk x k 64
theorem zet (x p q : Nat) (h : p < q) (hp : x.testBit p = true) : zi x p < zi x q := by
 have h1 : zi x (p + 1) = zi x p + 1 := by simp [zi, hp]
 have h2 := zhy x (show p + 1 ≤ q by omega)
 omega
theorem zna (x p q : Nat) (hp : x.testBit p = true) (hq : x.testBit q = true) (h : zi x p = zi x q) : p = q := by
 rcases Nat.lt_trichotomy p q with h1 | h1 | h1
 ·have := zet x p q h1 hp; omega
 ·exact h1
 ·have := zet x q p h1 hq; omega
theorem zsa (x p : Nat) (k : Int) (hp : x.testBit p = true) (hk : (zi x p : Int) = k) (h64 : p < 64) : ∀ n, zhk x k n = if p < n then p else 64
 | 0 => by simp [zhk]
 | n + 1 => by
   simp only [zhk]
   rw [zsa x p k hp hk h64 n]
   by_cases h1 : p < n
   ·rw [if_pos h1, if_pos h64, if_pos (by omega)]
   ·rw [if_neg h1, if_neg (show ¬ ((64 : Nat) < 64) by omega)]
    by_cases h2 : p = n
    ·subst h2; rw [if_pos ⟨hp, hk⟩, if_pos (show p < p + 1 by omega)]
    ·rw [if_neg (show ¬ (p < n + 1) by omega), if_neg]
     intro ⟨h3, h4⟩
     exact h2 (zna x p n hp h3 (by omega))
theorem zv4 (x p : Nat) (k : Int) (hp : x.testBit p = true) (hk : (zi x p : Int) = k) (h64 : p < 64) : selN x k = p := by
 unfold selN; rw [zsa x p k hp hk h64, if_pos h64]
theorem znb (x : Nat) (k : Int) : ∀ n, (k < 0 ∨ (zi x n : Int) ≤ k) → zhk x k n = 64
 | 0, _ => rfl
 | n + 1, h => by
   have hm := zhy x (show n ≤ n + 1 by omega)
   simp only [zhk]
   rw [znb x k n (by omega), if_neg (by omega), if_neg]
   intro ⟨h1, h2⟩
   have : zi x (n + 1) = zi x n + 1 := by simp [zi, h1]
   omega
theorem zy7 (x : Nat) (k : Int) (h : k < 0 ∨ (zi x 64 : Int) ≤ k) : selN x k = 64 := znb x k 64 h
theorem znc (x k : Nat) : ∀ n, k < zi x n → ∃ p, p < n ∧ x.testBit p = true ∧ zi x p = k
 | 0, h => by simp [zi] at h
 | n + 1, h => by
   by_cases h1 : k < zi x n
   ·obtain ⟨p, hp, h2⟩ := znc x k n h1
    exact ⟨p, by omega, h2⟩
   ·simp only [zi] at h
    have hb : x.testBit n = true := by
     cases hb : x.testBit n
     ·rw [hb] at h; simp at h; omega
     ·rfl
    rw [hb] at h
    simp at h
    exact ⟨n, by omega, hb, by omega⟩
theorem z1o (w P : Nat) (hb : w.testBit P = true) (h : zi w 8 ≤ zi w P) : 8 ≤ P ∧ (w / 256).testBit (P - 8) = true ∧ zi (w / 256) (P - 8) = zi w P - zi w 8 := by
 have h8 : 8 ≤ P := by
  rcases Nat.lt_or_ge P 8 with h1 | h1
  ·have := zet w P 8 h1 hb; omega
  ·exact h1
 refine ⟨h8, ?_, ?_⟩
 ·rw [show (256 : Nat) = 2 ^ 8 from rfl, Nat.testBit_div_two_pow, show P - 8 + 8 = P from by omega]; exact hb
 ·have := ziv w 8 (P - 8)
  rw [show 8 + (P - 8) = P from by omega] at this
  rw [show (256 : Nat) = 2 ^ 8 from rfl]; omega
theorem zpx (w : Nat) (h0 : w ≠ 0) (hw : w < 18446744073709551616) : ∃ c m, Lib.ctz 64 w = c ∧ c < 64 ∧ w = 2 ^ c * (2 * m + 1) := by
 obtain ⟨m, hm, hk⟩ := Lib.ctzFrom_spec 64 w (by omega) hw
 exact ⟨_, m, by simp [Lib.ctz, h0], hk, hm⟩
theorem zop (c m i : Nat) : (2 ^ c * (2 * m + 1)).testBit i = (decide (c ≤ i) && (2 * m + 1).testBit (i - c)) := by
 rw [Nat.mul_comm, Nat.testBit_mul_two_pow]
theorem zsb (w : Nat) (h0 : w ≠ 0) (hw : w < 18446744073709551616) : w.testBit (Lib.ctz 64 w) = true ∧ zi w (Lib.ctz 64 w) = 0 := by
 obtain ⟨c, m, hc, _, rfl⟩ := zpx w h0 hw
 rw [hc]
 constructor
 ·rw [zop]; simp [Nat.testBit_zero]
 ·have : ∀ n, n ≤ c → zi (2 ^ c * (2 * m + 1)) n = 0 := by
   intro n
   induction n with
   | zero => intro _; rfl
   | succ n ih =>
     intro h
     have e : (2 ^ c * (2 * m + 1)).testBit n = false := by
      rw [zop]
      have : decide (c ≤ n) = false := by rw [decide_eq_false_iff_not]; omega
      rw [this]; rfl
     simp only [zi]
     rw [ih (by omega), e]; rfl
  exact this c (Nat.le_refl _)
theorem zy8 (w P : Nat) (hw : w < 18446744073709551616) (hb : w.testBit P = true) (h : zi w P = 0) : Lib.ctz 64 w = P := by
 have h0 : w ≠ 0 := by intro e; subst e; simp at hb
 have h1 := zsb w h0 hw
 exact zna w _ _ h1.1 hb (by omega)
theorem z5g (w : Nat) (h0 : w ≠ 0) (hw : w < 18446744073709551616) (i : Nat) : (w &&& (w - 1)).testBit i = (w.testBit i && decide (i ≠ Lib.ctz 64 w)) := by
 obtain ⟨c, m, hc, _, rfl⟩ := zpx w h0 hw
 have hp := Nat.two_pow_pos c
 have e : 2 ^ c * (2 * m + 1) - 1 = 2 ^ c * (2 * m) + (2 ^ c - 1) := by rw [Nat.mul_add, Nat.mul_one]; omega
 have hdv : (2 ^ c * (2 * m) + (2 ^ c - 1)) / 2 ^ c = 2 * m := by rw [Nat.mul_add_div hp, Nat.div_eq_of_lt (show 2 ^ c - 1 < 2 ^ c by omega), Nat.add_zero]
 rw [hc, e, Nat.testBit_and, zop]
 by_cases h : c ≤ i
 ·have h1 : (2 ^ c * (2 * m) + (2 ^ c - 1)).testBit i = (2 * m).testBit (i - c) := by
   obtain ⟨j, rfl⟩ : ∃ j, i = c + j := ⟨i - c, by omega⟩
   rw [show c + j - c = j from by omega, Nat.testBit_eq_decide_div_mod_eq, Nat.testBit_eq_decide_div_mod_eq, Nat.pow_add, ← Nat.div_div_eq_div_mul, hdv]
  rw [h1]
  obtain ⟨j, rfl⟩ : ∃ j, i = c + j := ⟨i - c, by omega⟩
  rw [show c + j - c = j from by omega]
  cases j with
  | zero => simp
  | succ j =>
    have d1 : (2 * m + 1) / 2 = m := by omega
    have d2 : 2 * m / 2 = m := by omega
    rw [Nat.testBit_succ, Nat.testBit_succ, d1, d2]
    have : decide (c + (j + 1) ≠ c) = true := by simp
    rw [this]; simp
 ·have : decide (c ≤ i) = false := by rw [decide_eq_false_iff_not]; exact h
  rw [this]; simp
theorem z7o (w P : Nat) (hw : w < 18446744073709551616) (hb : w.testBit P = true) (h : 0 < zi w P) : (w &&& (w - 1)).testBit P = true ∧ zi (w &&& (w - 1)) P = zi w P - 1 ∧ Lib.ctz 64 w < P := by
 have h0 : w ≠ 0 := by intro e; subst e; simp at hb
 have h1 := zsb w h0 hw
 have hc := z5g w h0 hw
 have hcP : Lib.ctz 64 w < P := by
  rcases Nat.lt_or_ge (Lib.ctz 64 w) P with h2 | h2
  ·exact h2
  ·have := zhy w h2; omega
 generalize Lib.ctz 64 w = c at *
 refine ⟨by rw [hc, hb]; simp; omega, ?_, hcP⟩
 have key : ∀ n, zi (w &&& (w - 1)) n = if c < n then zi w n - 1 else zi w n := by
  intro n
  induction n with
  | zero => simp [zi]
  | succ n ih =>
    simp only [zi]
    rw [ih, hc]
    by_cases h2 : c < n
    ·have h3 := zet w c n h2 h1.1
     rw [if_pos h2, if_pos (by omega)]
     have : decide (n ≠ c) = true := by simp; omega
     rw [this, Bool.and_true]; omega
    ·rw [if_neg h2]
     by_cases h3 : n = c
     ·subst h3
      rw [if_pos (by omega), h1.1]; simp
     ·rw [if_neg (by omega)]
      have : decide (n ≠ c) = true := by simp; omega
      rw [this, Bool.and_true]
 rw [key, if_pos hcP]
end Go.Proofs.YtgpbpgpolpakjaaGreatDoor.L
namespace Go.Proofs.YtgpbpgpolpakjaaGreatDoor.L
end Go.Proofs.YtgpbpgpolpakjaaGreatDoor.L
namespace Go.Proofs.YtgpbpgpolpakjaaGreatDoor.L
def kc (t : Bool) (bs : List Bool) : Nat → Nat
 | 0 => 0
 | n + 1 => kc t bs n + (decide (n < bs.length) && (zb bs n == t)).toNat
theorem zhl (t : Bool) (bs : List Bool) (n : Nat) : kc t bs n ≤ n := by
 induction n with
 | zero => simp [kc]
 | succ n ih => have := Bool.toNat_le (decide (n < bs.length) && (zb bs n == t)); simp only [kc]; omega
theorem ze9 (t : Bool) (bs : List Bool) {a b : Nat} (h : a ≤ b) : kc t bs a ≤ kc t bs b := by
 induction b with
 | zero => have : a = 0 := by omega
           subst this; exact Nat.le_refl _
 | succ b ih =>
   rcases Nat.lt_or_ge a (b + 1) with h1 | h1
   ·have := ih (by omega); simp only [kc]; omega
   ·have : a = b + 1 := by omega
    subst this; exact Nat.le_refl _
theorem z5h (t : Bool) (bs : List Bool) (a n : Nat) : kc t bs (a + n) ≤ kc t bs a + n := by
 induction n with
 | zero => simp
 | succ n ih => have := Bool.toNat_le (decide (a + n < bs.length) && (zb bs (a + n) == t)); rw [← Nat.add_assoc]; simp only [kc]; omega
theorem zri (t : Bool) (bs : List Bool) (n : Nat) (h : bs.length ≤ n) : kc t bs n = kc t bs bs.length := by
 induction n with
 | zero => have : bs.length = 0 := by omega
           rw [this]
 | succ n ih =>
   rcases Nat.lt_or_ge n bs.length with h1 | h1
   ·have : bs.length = n + 1 := by omega
    rw [this]
   ·simp only [kc]
    have : decide (n < bs.length) = false := by simp; omega
    rw [this, ih h1]; rfl
theorem zle (bs : List Bool) (n : Nat) : kc true bs n = cnt bs n := by
 induction n with
 | zero => rfl
 | succ n ih =>
   simp only [kc, cnt, ih]
   by_cases h : n < bs.length
   ·have : decide (n < bs.length) = true := by simpa using h
    rw [this, Bool.true_and]; cases zb bs n <;> rfl
   ·have : decide (n < bs.length) = false := by simpa using h
    rw [this, ze1 bs n (by omega)]; rfl
theorem zmi (bs : List Bool) (n : Nat) (hn : n ≤ bs.length) : kc false bs n = n - cnt bs n := by
 induction n with
 | zero => rfl
 | succ n ih =>
   have hc := zj7 bs n
   simp only [kc, cnt, ih (by omega)]
   have : decide (n < bs.length) = true := by simp; omega
   rw [this, Bool.true_and]
   cases zb bs n <;> simp <;> omega
theorem zy9 (bs : List Bool) (i : Nat) : cnt bs (held bs.length (i : Int)) = kc true bs i := by
 rw [zle]
 rcases Nat.lt_or_ge bs.length i with h | h
 ·rw [show held bs.length (i : Int) = bs.length from by unfold held; omega, zy0 bs i (by omega)]
 ·rw [zmh _ _ h]
theorem z5i (bs : List Bool) (i : Nat) : held bs.length (i : Int) - cnt bs (held bs.length (i : Int)) = kc false bs i := by
 rcases Nat.lt_or_ge bs.length i with h | h
 ·rw [show held bs.length (i : Int) = bs.length from by unfold held; omega, zri false bs i (by omega), zmi bs _ (Nat.le_refl _)]
 ·rw [zmh _ _ h, zmi bs _ h]
theorem zv5 (bs : List Bool) : kc true bs bs.length + kc false bs bs.length = bs.length := by
 rw [zle, zmi bs _ (Nat.le_refl _)]
 have := zj7 bs bs.length
 omega
def zxd (t : Bool) (bs : List Bool) (q v : Nat) : Prop := ∀ j, j < 64 → v.testBit j = (decide (64 * q + j < bs.length) && (zb bs (64 * q + j) == t))
theorem zpy {t : Bool} {bs : List Bool} {q v : Nat} (h : zxd t bs q v) (n : Nat) (hn : n ≤ 64) : kc t bs (64 * q + n) = kc t bs (64 * q) + zi v n := by
 induction n with
 | zero => rfl
 | succ n ih =>
   have e := ih (by omega)
   rw [← Nat.add_assoc]
   simp only [kc, zi]
   rw [e, h n (by omega)]; omega
theorem zpz (bs : List Bool) (q : Nat) : zxd true bs q (zk bs q) := fun j hj => by
 rw [zaq]
 have : decide (j < 64) = true := by simpa using hj
 rw [this, Bool.true_and]
 by_cases h : 64 * q + j < bs.length
 ·have : decide (64 * q + j < bs.length) = true := by simpa using h
  rw [this, Bool.true_and]; cases zb bs (64 * q + j) <;> rfl
 ·rw [ze1 bs _ (by omega)]; simp
def comp (v : Nat) : Nat := 18446744073709551615 - v
theorem p64 : (2 : Nat) ^ 64 = 18446744073709551616 := by decide
theorem zsc (v j : Nat) (hv : v < 18446744073709551616) (hj : j < 64) : (comp v).testBit j = !v.testBit j := by
 have hp := p64
 have e : (18446744073709551615 : Nat) - v = 2 ^ 64 - (v + 1) := by omega
 unfold comp
 rw [e, Nat.testBit_two_pow_sub_succ (by omega)]
 have : decide (j < 64) = true := by simpa using hj
 rw [this, Bool.true_and]
theorem zoq (v : Nat) : comp v < 18446744073709551616 := by unfold comp; omega
theorem zxe (bs : List Bool) (q : Nat) (hq : 64 * q < bs.length) : zxd false bs q (zay (comp (zk bs q)) 0 ((bs.length : Int) - ((64 * q : Nat) : Int))) := fun j hj => by
 have hw := za3 bs q
 unfold zay
 rw [if_neg (by omega), if_neg (by omega), Nat.testBit_mod_two_pow, Nat.testBit_div_two_pow, Int.toNat_zero, Nat.add_zero, zsc _ _ hw hj, zaq]
 have h64 : decide (j < 64) = true := by simpa using hj
 rw [h64, Bool.true_and]
 have hd : decide (j < z8 ((bs.length : Int) - ((64 * q : Nat) : Int))) = decide (64 * q + j < bs.length) := by
  rw [Bool.eq_iff_iff, decide_eq_true_eq, decide_eq_true_eq]; unfold z8; omega
 rw [hd]
 cases zb bs (64 * q + j) <;> simp
theorem zib (t : Bool) (bs : List Bool) (p q : Nat) (h : p < q) (hp : p < bs.length) (hb : zb bs p = t) : kc t bs p < kc t bs q := by
 have h1 : kc t bs (p + 1) = kc t bs p + 1 := by
  simp only [kc]
  have : decide (p < bs.length) = true := by simpa using hp
  rw [this, hb]; simp
 have h2 := ze9 t bs (show p + 1 ≤ q by omega)
 omega
theorem zza (t : Bool) (bs : List Bool) (p q : Nat) (hp : p < bs.length) (hq : q < bs.length) (hbp : zb bs p = t) (hbq : zb bs q = t) (h : kc t bs p = kc t bs q) : p = q := by
 rcases Nat.lt_trichotomy p q with h1 | h1 | h1
 ·have := zib t bs p q h1 hp hbp; omega
 ·exact h1
 ·have := zib t bs q p h1 hq hbq; omega
def Half (t : Bool) (bs : List Bool) (p : Nat) (l : List Nat) : Prop :=
 l.length = (kc t bs p + 255) / 256 ∧ ∀ j x, l[j]? = some x → 512 * x < bs.length ∧ kc t bs (512 * x) ≤ 256 * j ∧ 256 * j < kc t bs (512 * (x + 1))
theorem zsd (t : Bool) (bs : List Bool) : Half t bs 0 [] := ⟨by simp [kc], fun j x h => by simp at h⟩
theorem zzb {t : Bool} {bs : List Bool} {q : Nat} {l : List Nat} (h : Half t bs (64 * q) l) (hc : ¬ (kc t bs (64 * q) + 255) / 256 * 256 < kc t bs (64 * q + 64)) : Half t bs (64 * q + 64) l := by
 have h1 := ze9 t bs (show 64 * q ≤ 64 * q + 64 by omega)
 exact ⟨by rw [h.1]; omega, h.2⟩
theorem zzc {t : Bool} {bs : List Bool} {q : Nat} {l : List Nat} (h : Half t bs (64 * q) l) (hq : 64 * q < bs.length) (hc : (kc t bs (64 * q) + 255) / 256 * 256 < kc t bs (64 * q + 64)) : Half t bs (64 * q + 64) (l ++ [64 * q / 512]) := by
 have h1 := z5h t bs (64 * q) 64
 refine ⟨by rw [List.length_append, h.1]; simp; omega, fun j x hx => ?_⟩
 rcases Nat.lt_or_ge j l.length with hj | hj
 ·rw [List.getElem?_append_left hj] at hx; exact h.2 j x hx
 ·rw [List.getElem?_append_right hj] at hx
  have e : j - l.length = 0 := by
   rcases Nat.eq_zero_or_pos (j - l.length) with h0 | h0
   ·exact h0
   ·rw [List.getElem?_eq_none (by simp; omega)] at hx; cases hx
  rw [e] at hx
  simp at hx
  subst hx
  have hl := h.1
  have m1 := ze9 t bs (show 512 * (64 * q / 512) ≤ 64 * q by omega)
  have m2 := ze9 t bs (show 64 * q + 64 ≤ 512 * (64 * q / 512 + 1) by omega)
  have hj2 : j = (kc t bs (64 * q) + 255) / 256 := by omega
  rw [hj2]
  exact ⟨by omega, by omega, by omega⟩
theorem zp0 {t : Bool} {bs : List Bool} {p q o : Nat} {l : List Nat} (h : Half t bs p l) (hp : p = 64 * q) (hq : p < bs.length) (ho : kc t bs (p + 64) = kc t bs p + o) :
  Half t bs (p + 64) (if (kc t bs p + 255) / 256 * 256 < kc t bs p + o then l ++ [p / 512] else l) := by
 subst hp
 rw [← ho]
 by_cases hc : (kc t bs (64 * q) + 255) / 256 * 256 < kc t bs (64 * q + 64)
 ·rw [if_pos hc]; exact zzc h hq hc
 ·rw [if_neg hc]; exact zzb h hc
theorem zse {t : Bool} {bs : List Bool} {p : Nat} {l : List Nat} (h : Half t bs p l) (hp : bs.length ≤ p) : Half t bs bs.length l := ⟨by rw [h.1, zri t bs p hp], h.2⟩
theorem z1p {t : Bool} {bs : List Bool} {l : List Nat} (h : Half t bs bs.length l) (k : Nat) (hk : k < kc t bs bs.length) : ∃ x, l[k / 256]? = some x ∧ 512 * x < bs.length ∧ kc t bs (512 * x) ≤ k := by
 have hl := h.1
 have hi : k / 256 < l.length := by omega
 obtain ⟨x, hx⟩ : ∃ x, l[k / 256]? = some x := ⟨_, List.getElem?_eq_getElem hi⟩
 have := h.2 _ _ hx
 exact ⟨x, hx, this.1, by omega⟩
theorem zzd {t : Bool} {bs : List Bool} {l : List Nat} (h : Half t bs bs.length l) (k x : Nat) (hx : l[k / 256 + 1]? = some x) : k < kc t bs (512 * (x + 1)) ∧ 512 * x < bs.length := by
 have := h.2 _ _ hx
 omega
theorem zv6 {t : Bool} {bs : List Bool} {p k q : Nat} (hp : p < bs.length) (hb : zb bs p = t) (hk : kc t bs p = k) (h1 : kc t bs (64 * q) ≤ k) (h2 : k < kc t bs (64 * q + 64)) : 64 * q ≤ p ∧ p < 64 * q + 64 := by
 constructor
 ·rcases Nat.lt_or_ge p (64 * q) with h | h
  ·have := zib t bs p (64 * q) h hp hb; omega
  ·exact h
 ·rcases Nat.lt_or_ge p (64 * q + 64) with h | h
  ·exact h
  ·have := ze9 t bs h; omega
theorem zsf {t : Bool} {bs : List Bool} {q j v : Nat} (hv : ∀ i, i ≤ j → v.testBit i = (zb bs (64 * q + i) == t)) (hj : j < 64) (hp : 64 * q + j < bs.length) (hb : zb bs (64 * q + j) = t) : selN v ((kc t bs (64 * q + j) - kc t bs (64 * q) : Nat) : Int) = j := by
 have key : ∀ n, n ≤ j → kc t bs (64 * q + n) = kc t bs (64 * q) + zi v n := by
  intro n
  induction n with
  | zero => intro _; rfl
  | succ n ih =>
    intro hn
    rw [← Nat.add_assoc]
    simp only [kc, zi]
    have : decide (64 * q + n < bs.length) = true := by simp; omega
    rw [ih (by omega), hv n (by omega), this, Bool.true_and]; omega
 refine zv4 v j _ (by rw [hv j (Nat.le_refl _), hb]; simp) ?_ hj
 have := key j (Nat.le_refl _)
 omega
theorem z5j (bs : List Bool) (q j : Nat) (hj : j < 64) (hp : 64 * q + j < bs.length) (hb : zb bs (64 * q + j) = true) : selN (zk bs q) ((kc true bs (64 * q + j) - kc true bs (64 * q) : Nat) : Int) = j :=
 zsf (fun i hi => by rw [zpz bs q i (by omega)]; have : decide (64 * q + i < bs.length) = true := by simp; omega
                     rw [this, Bool.true_and]) hj hp hb
theorem z1q (bs : List Bool) (q j : Nat) (hj : j < 64) (hp : 64 * q + j < bs.length) (hb : zb bs (64 * q + j) = false) : selN (comp (zk bs q)) ((kc false bs (64 * q + j) - kc false bs (64 * q) : Nat) : Int) = j :=
 zsf (fun i hi => by rw [zsc _ _ (za3 bs q) (by omega), zaq]; have : decide (i < 64) = true := by simp; omega
                     rw [this, Bool.true_and]; cases zb bs (64 * q + i) <;> rfl) hj hp hb
end Go.Proofs.YtgpbpgpolpakjaaGreatDoor.L
namespace Go.Proofs.YtgpbpgpolpakjaaGreatDoor.L
def plTo (t : Bool) (bs : List Bool) (k : Int) : Nat → Int
 | 0 => -1
 | n + 1 => if 0 ≤ plTo t bs k n then plTo t bs k n else if n < bs.length ∧ zb bs n = t ∧ (kc t bs n : Int) = k then n else -1
def pl (t : Bool) (bs : List Bool) (k : Int) : Int := plTo t bs k bs.length
end Go.Proofs.YtgpbpgpolpakjaaGreatDoor.L
namespace Go.Proofs.YtgpbpgpolpakjaaGreatDoor.L
theorem ziz (t : Bool) (bs : List Bool) : ∀ n, kc t bs n = (bs.take n).count t
 | 0 => by simp [kc]
 | n + 1 => by
   simp only [kc]
   rw [ziz t bs n]
   by_cases h : n < bs.length
   ·have hg := zf9 bs n h
    rw [List.getElem?_eq_getElem h] at hg
    injection hg with hg
    rw [List.take_succ_eq_append_getElem h, List.count_append, hg]
    have hd : decide (n < bs.length) = true := decide_eq_true h
    rw [hd, Bool.true_and]
    cases zb bs n <;> cases t <;> simp
   ·have hd : decide (n < bs.length) = false := decide_eq_false h
    rw [hd, List.take_of_length_le (show bs.length ≤ n by omega), List.take_of_length_le (show bs.length ≤ n + 1 by omega)]; simp
theorem zv7 (p : List Bool) (b : Bool) (r : List Bool) : zb (p ++ b :: r) p.length = b ∧ p.length < (p ++ b :: r).length ∧ ∀ t, kc t (p ++ b :: r) p.length = p.count t := by
 refine ⟨?_, by simp, fun t => ?_⟩
 ·unfold zb
  rw [List.getElem?_append_right (Nat.le_refl _), Nat.sub_self]; rfl
 ·rw [ziz, List.take_left]
def hiL (w : Nat) : Nat → List Nat → List Bool
 | _, [] => []
 | part, x :: l => List.replicate (x / 2 ^ w - part) false ++ true :: hiL w (x / 2 ^ w) l
def zu (w : Nat) : Nat → List Nat → Nat
 | part, [] => part
 | _, x :: l => zu w (x / 2 ^ w) l
def UpL (w : Nat) : Nat → List Nat → Prop
 | _, [] => True
 | part, x :: l => part ≤ x / 2 ^ w ∧ UpL w (x / 2 ^ w) l
theorem zek (w : Nat) : ∀ (l m : List Nat) (p : Nat), hiL w p (l ++ m) = hiL w p l ++ hiL w (zu w p l) m
 | [], m, p => rfl
 | x :: l, m, p => by
   simp only [List.cons_append, hiL, zu]
   rw [zek w l m]
   simp
theorem zcg (w : Nat) : ∀ (l m : List Nat) (p : Nat), zu w p (l ++ m) = zu w (zu w p l) m
 | [], m, p => rfl
 | x :: l, m, p => by simp only [List.cons_append, zu]; exact zcg w l m _
theorem zbr (w : Nat) : ∀ (l m : List Nat) (p : Nat), UpL w p (l ++ m) ↔ UpL w p l ∧ UpL w (zu w p l) m
 | [], m, p => by simp [UpL, zu]
 | x :: l, m, p => by
   simp only [List.cons_append, UpL, zu]
   rw [zbr w l m]
   constructor
   ·rintro ⟨a, b, c⟩; exact ⟨⟨a, b⟩, c⟩
   ·rintro ⟨⟨a, b⟩, c⟩; exact ⟨a, b, c⟩
theorem zic (w : Nat) : ∀ (l : List Nat) (p : Nat), UpL w p l → p ≤ zu w p l
 | [], p, _ => Nat.le_refl _
 | x :: l, p, h => Nat.le_trans h.1 (zic w l _ h.2)
theorem zfa (w : Nat) : ∀ (l : List Nat) (p : Nat), UpL w p l → (hiL w p l).count true = l.length ∧ (hiL w p l).count false = zu w p l - p
 | [], p, _ => by simp [hiL, zu]
 | x :: l, p, h => by
   obtain ⟨h1, h2⟩ := zfa w l (x / 2 ^ w) h.2
   have hle := zic w l _ h.2
   have h0 := h.1
   constructor
   ·simp only [hiL, List.count_append, List.count_cons, h1, List.count_replicate, List.length_cons]; simp
   ·simp only [hiL, List.count_append, List.count_cons, h2, List.count_replicate, zu]; simp; omega
theorem znd (bs : List Bool) : bs.count true + bs.count false = bs.length := by
 induction bs with
 | nil => rfl
 | cons b bs ih => cases b <;> simp [List.count_cons] <;> omega
theorem zcq (w : Nat) (l : List Nat) (p : Nat) (h : UpL w p l) : (hiL w p l).length = l.length + (zu w p l - p) := by
 rw [← znd, (zfa w l p h).1, (zfa w l p h).2]
def high (w top : Nat) (l : List Nat) : List Bool := hiL w 0 l ++ List.replicate (top - zu w 0 l) false
def lows (w : Nat) (l : List Nat) : List Bool := l.flatMap fun x => bitsOf (x % 2 ^ w) w
theorem zdv (w top : Nat) (l : List Nat) (h : UpL w 0 l) (ht : zu w 0 l ≤ top) : (high w top l).length = l.length + top := by
 unfold high; rw [List.length_append, zcq w l 0 h, List.length_replicate]; omega
theorem zbk (w : Nat) : ∀ l : List Nat, (lows w l).length = l.length * w
 | [] => by simp [lows]
 | x :: l => by
   have := zbk w l
   unfold lows at *
   rw [List.flatMap_cons, List.length_append, zq, this, List.length_cons, Nat.add_mul]; omega
theorem zp1 (w : Nat) (l : List Nat) (x : Nat) : lows w (l ++ [x]) = lows w l ++ bitsOf (x % 2 ^ w) w := by unfold lows; rw [List.flatMap_append]; simp
theorem zxf (w : Nat) (l m : List Nat) : lows w (l ++ m) = lows w l ++ lows w m := by unfold lows; rw [List.flatMap_append]
theorem zor (w : Nat) (l1 l2 : List Nat) (x : Nat) : fld (lows w (l1 ++ x :: l2)) (l1.length * w) w = x % 2 ^ w := by
 have e : lows w (l1 ++ x :: l2) = lows w l1 ++ (bitsOf (x % 2 ^ w) w ++ lows w l2) := by rw [zxf]; rfl
 apply Nat.eq_of_testBit_eq
 intro j
 rw [fld_testBit, e, ← zbk, zdd, if_neg (by omega), Nat.add_sub_cancel_left, zdd, zq]
 by_cases hj : j < w
 ·rw [if_pos hj, zcv]
  have hd : decide (j < w) = true := decide_eq_true hj
  rw [hd, Bool.true_and, Bool.true_and]
 ·have hd : decide (j < w) = false := decide_eq_false hj
  rw [hd, Bool.false_and, zej (Nat.mod_lt x (Nat.two_pow_pos w)) (by omega)]
theorem zne {w top : Nat} {l1 l2 : List Nat} {x : Nat} (h : UpL w 0 (l1 ++ x :: l2)) : zb (high w top (l1 ++ x :: l2)) (l1.length + x / 2 ^ w) = true ∧ l1.length + x / 2 ^ w < (high w top (l1 ++ x :: l2)).length ∧ kc true (high w top (l1 ++ x :: l2)) (l1.length + x / 2 ^ w) = l1.length := by
 obtain ⟨h1, h2⟩ := (zbr w l1 (x :: l2) 0).1 h
 have hx := h2.1
 have e : high w top (l1 ++ x :: l2) = (hiL w 0 l1 ++ List.replicate (x / 2 ^ w - zu w 0 l1) false) ++ true :: (hiL w (x / 2 ^ w) l2 ++ List.replicate (top - zu w 0 (l1 ++ x :: l2)) false) := by
  unfold high; rw [zek]; simp [hiL]
 have hl : (hiL w 0 l1 ++ List.replicate (x / 2 ^ w - zu w 0 l1) false).length = l1.length + x / 2 ^ w := by
  rw [List.length_append, zcq w l1 0 h1, List.length_replicate]; omega
 have hm := zv7 (hiL w 0 l1 ++ List.replicate (x / 2 ^ w - zu w 0 l1) false) true (hiL w (x / 2 ^ w) l2 ++ List.replicate (top - zu w 0 (l1 ++ x :: l2)) false)
 rw [hl, ← e] at hm
 refine ⟨hm.1, hm.2.1, ?_⟩
 rw [hm.2.2 true, List.count_append, (zfa w l1 0 h1).1, List.count_replicate]; simp
theorem z5k {w top : Nat} {l1 l2 : List Nat} {p : Nat} (h : UpL w 0 (l1 ++ l2)) (h1 : zu w 0 l1 ≤ p) (h2 : ∀ x ∈ l2.head?, p < x / 2 ^ w) (h3 : p < top) : zb (high w top (l1 ++ l2)) (l1.length + p) = false ∧ l1.length + p < (high w top (l1 ++ l2)).length ∧ kc false (high w top (l1 ++ l2)) (l1.length + p) = p := by
 obtain ⟨u1, u2⟩ := (zbr w l1 l2 0).1 h
 obtain ⟨R, hR⟩ : ∃ R, high w top (l1 ++ l2) = (hiL w 0 l1 ++ List.replicate (p - zu w 0 l1) false) ++ false :: R := by
  have hrep : ∀ m, p - zu w 0 l1 < m → ∃ k, List.replicate m false = List.replicate (p - zu w 0 l1) false ++ false :: List.replicate k false := fun m hm =>
   ⟨m - (p - zu w 0 l1) - 1, by rw [← List.replicate_succ, List.replicate_append_replicate]; congr 1; omega⟩
  unfold high
  rw [zek]
  cases l2 with
  | nil =>
    obtain ⟨k, hk⟩ := hrep (top - zu w 0 l1) (by omega)
    refine ⟨List.replicate k false, ?_⟩
    rw [List.append_nil, hk]; simp [hiL]
  | cons x l2 =>
    have hx := h2 x rfl
    obtain ⟨k, hk⟩ := hrep (x / 2 ^ w - zu w 0 l1) (by omega)
    refine ⟨List.replicate k false ++ true :: hiL w (x / 2 ^ w) l2 ++ List.replicate (top - zu w 0 (l1 ++ x :: l2)) false, ?_⟩
    simp only [hiL]
    rw [hk]; simp
 have hl : (hiL w 0 l1 ++ List.replicate (p - zu w 0 l1) false).length = l1.length + p := by
  rw [List.length_append, zcq w l1 0 u1, List.length_replicate]; omega
 have hm := zv7 (hiL w 0 l1 ++ List.replicate (p - zu w 0 l1) false) false R
 rw [hl, ← hR] at hm
 refine ⟨hm.1, hm.2.1, ?_⟩
 rw [hm.2.2 false, List.count_append, (zfa w l1 0 u1).2, List.count_replicate]; simp; omega
def Ris (l : List Nat) : Prop := l.Pairwise (· ≤ ·)
theorem Ris.le {l : List Nat} (h : Ris l) {i j : Nat} (hij : i ≤ j) (hj : j < l.length) : l[i]'(by omega) ≤ l[j] := by
 rcases Nat.eq_or_lt_of_le hij with e | e
 ·subst e; exact Nat.le_refl _
 ·exact List.pairwise_iff_getElem.1 h i j (by omega) hj e
theorem zsg (w : Nat) {x y : Nat} (h : x ≤ y) : x / 2 ^ w ≤ y / 2 ^ w := Nat.div_le_div_right h
theorem Ris.up (w : Nat) : ∀ (l : List Nat) (p : Nat), Ris l → (∀ x ∈ l, p ≤ x / 2 ^ w) → UpL w p l
 | [], _, _, _ => trivial
 | x :: l, p, h, hp => by
   have h' := List.pairwise_cons.1 h
   exact ⟨hp x (List.mem_cons_self ..), Ris.up w l _ h'.2 (fun y hy => zsg w (h'.1 y hy))⟩
theorem zmj (w m : Nat) : ∀ (l : List Nat) (p : Nat), p ≤ m → (∀ x ∈ l, x / 2 ^ w ≤ m) → zu w p l ≤ m
 | [], p, h, _ => h
 | x :: l, p, _, hl => zmj w m l _ (hl x (List.mem_cons_self ..)) (fun y hy => hl y (List.mem_cons_of_mem _ hy))
def cl (l : List Nat) (x : Nat) : Nat := l.countP fun y => decide (y < x)
theorem znf (l : List Nat) (x : Nat) : cl l x ≤ l.length := List.countP_le_length
theorem z1r {l1 l2 : List Nat} {x : Nat} (h1 : ∀ y ∈ l1, y < x) (h2 : ∀ y ∈ l2, x ≤ y) : cl (l1 ++ l2) x = l1.length := by
 unfold cl
 rw [List.countP_append, List.countP_eq_length.2 (fun y hy => decide_eq_true (h1 y hy)), List.countP_eq_zero.2 (fun y hy => by simp; exact h2 y hy), Nat.add_zero]
theorem zp2 {l : List Nat} (h : Ris l) {x i : Nat} (hi : i ≤ l.length) (h1 : ∀ j (hj : j < i), l[j]'(by omega) < x) (h2 : ∀ hi' : i < l.length, x ≤ l[i]) : cl l x = i := by
 have e : l = l.take i ++ l.drop i := (List.take_append_drop i l).symm
 rw [e, z1r (l1 := l.take i) (l2 := l.drop i) ?_ ?_, List.length_take]
 ·omega
 ·intro y hy
  obtain ⟨j, hj, rfl⟩ := List.mem_iff_getElem.1 hy
  rw [List.length_take] at hj
  rw [List.getElem_take]
  exact h1 j (by omega)
 ·intro y hy
  obtain ⟨j, hj, rfl⟩ := List.mem_iff_getElem.1 hy
  rw [List.length_drop] at hj
  rw [List.getElem_drop]
  exact Nat.le_trans (h2 (by omega)) (h.le (by omega) (by omega))
theorem zng {l : List Nat} (h : Ris l) {x j : Nat} (hj : j < l.length) : l[j] < x ↔ j < cl l x := by
 have key : ∀ (l : List Nat), Ris l → ∀ j (hj : j < l.length), l[j] < x ↔ j < cl l x := by
  intro l
  induction l with
  | nil => intro _ j hj; simp at hj
  | cons a l ih =>
    intro h j hj
    have h' := List.pairwise_cons.1 h
    unfold cl
    rw [List.countP_cons]
    by_cases ha : a < x
    ·rw [if_pos (by simpa using ha)]
     cases j with
     | zero => simp [ha]
     | succ j =>
       have := ih h'.2 j (by simpa using hj)
       unfold cl at this
       simp only [List.getElem_cons_succ]
       omega
    ·rw [if_neg (by simpa using ha)]
     have h0 : List.countP (fun y => decide (y < x)) l = 0 := List.countP_eq_zero.2 (fun y hy => by have := h'.1 y hy; simp; omega)
     rw [h0]
     cases j with
     | zero => simp; omega
     | succ j =>
       have := h'.1 _ (List.getElem_mem (show j < l.length by simpa using hj))
       simp only [List.getElem_cons_succ]
       omega
 exact key l h j hj
theorem zos (w x p : Nat) : x / 2 ^ w < p ↔ x < p * 2 ^ w := Nat.div_lt_iff_lt_mul (Nat.two_pow_pos w)
end Go.Proofs.YtgpbpgpolpakjaaGreatDoor.L
namespace Go.Proofs.YtgpbpgpolpakjaaGreatDoor
namespace L
def gl (W : Nat) (lo : List Bool) : Nat → Nat → List Bool → List Nat
 | _, _, [] => []
 | k, p, false :: h => gl W lo k (p + 1) h
 | k, p, true :: h => (p * 2 ^ W + fld lo (k * W) W) :: gl W lo (k + 1) p h
theorem zj9 (W : Nat) (lo : List Bool) : ∀ (hi : List Bool) (k p : Nat), (gl W lo k p hi).length = hi.count true
 | [], k, p => rfl
 | false :: h, k, p => by simp only [gl]; rw [zj9 W lo h]; simp
 | true :: h, k, p => by simp only [gl, List.length_cons]; rw [zj9 W lo h]; simp
theorem zlf (W p v : Nat) (hv : v < 2 ^ W) : (p * 2 ^ W + v) / 2 ^ W = p ∧ (p * 2 ^ W + v) % 2 ^ W = v := by
 constructor
 ·rw [Nat.add_comm, Nat.add_mul_div_right _ _ (Nat.two_pow_pos W), Nat.div_eq_of_lt hv, Nat.zero_add]
 ·rw [Nat.add_comm, Nat.add_mul_mod_self_right, Nat.mod_eq_of_lt hv]
theorem UpL.weaken {w p : Nat} {l : List Nat} (h : UpL w (p + 1) l) : UpL w p l := by
 cases l with
 | nil => trivial
 | cons x l => exact ⟨by have := h.1; omega, h.2⟩
theorem zrj (W : Nat) (lo : List Bool) : ∀ (hi : List Bool) (k p : Nat), UpL W p (gl W lo k p hi)
 | [], k, p => trivial
 | false :: h, k, p => (zrj W lo h k (p + 1)).weaken
 | true :: h, k, p => by
   have h1 := zlf W p (fld lo (k * W) W) (zes _ _ _)
   simp only [gl, UpL]
   rw [h1.1]
   exact ⟨Nat.le_refl _, zrj W lo h (k + 1) p⟩
theorem zot (W : Nat) (lo : List Bool) : ∀ (hi : List Bool) (k p : Nat), zu W p (gl W lo k p hi) ≤ p + hi.count false
 | [], k, p => Nat.le_refl _
 | false :: h, k, p => by
   simp only [gl]
   have h1 := zot W lo h k (p + 1)
   have h2 : zu W p (gl W lo k (p + 1) h) ≤ zu W (p + 1) (gl W lo k (p + 1) h) := by
    cases gl W lo k (p + 1) h with
    | nil => simp [zu]
    | cons x l => exact Nat.le_refl _
   simp [List.count_cons]; omega
 | true :: h, k, p => by
   have h1 := zlf W p (fld lo (k * W) W) (zes _ _ _)
   simp only [gl, zu]
   rw [h1.1]
   have := zot W lo h (k + 1) p
   simp [List.count_cons]; omega
theorem zxg (W : Nat) (lo : List Bool) : ∀ (hi : List Bool) (k p : Nat), hiL W p (gl W lo k p hi) ++ List.replicate (p + hi.count false - zu W p (gl W lo k p hi)) false = hi
 | [], k, p => by simp [gl, hiL, zu]
 | false :: h, k, p => by
   have ih := zxg W lo h k (p + 1)
   have hu := zrj W lo h k (p + 1)
   have hc : p + (false :: h).count false = p + 1 + h.count false := by simp [List.count_cons]; omega
   rw [hc]
   simp only [gl]
   generalize gl W lo k (p + 1) h = l at *
   cases l with
   | nil =>
     simp only [hiL, zu, List.nil_append] at ih ⊢
     rw [show p + 1 + h.count false - p = (p + 1 + h.count false - (p + 1)) + 1 from by omega, List.replicate_succ, ih]
   | cons x l =>
     simp only [hiL, zu] at ih ⊢
     have h1 := hu.1
     rw [show x / 2 ^ W - p = (x / 2 ^ W - (p + 1)) + 1 from by omega, List.replicate_succ, List.cons_append, List.cons_append, ih]
 | true :: h, k, p => by
   have h1 := zlf W p (fld lo (k * W) W) (zes _ _ _)
   have ih := zxg W lo h (k + 1) p
   have hc : p + (true :: h).count false = p + h.count false := by simp [List.count_cons]
   rw [hc]
   simp only [gl, hiL, zu]
   rw [h1.1, Nat.sub_self, List.replicate_zero, List.nil_append, List.cons_append, ih]
theorem zou (W : Nat) (lo : List Bool) : ∀ (hi : List Bool) (k p : Nat), (k + hi.count true) * W ≤ lo.length → lows W (gl W lo k p hi) = (lo.drop (k * W)).take (hi.count true * W)
 | [], k, p, _ => by simp [gl, lows]
 | false :: h, k, p, hl => by
   have hc : (false :: h).count true = h.count true := by simp [List.count_cons]
   rw [hc] at hl ⊢
   exact zou W lo h k (p + 1) hl
 | true :: h, k, p, hl => by
   have h1 := zlf W p (fld lo (k * W) W) (zes _ _ _)
   have hc : (true :: h).count true = h.count true + 1 := by simp [List.count_cons]
   rw [hc] at hl ⊢
   have ih := zou W lo h (k + 1) p (by rw [show k + 1 + h.count true = k + (h.count true + 1) from by omega]; exact hl)
   have hin : k * W + W ≤ lo.length := by
    rw [← Nat.succ_mul]
    exact Nat.le_trans (Nat.mul_le_mul_right _ (by omega)) hl
   have e1 : lows W (gl W lo k p (true :: h)) = bitsOf ((p * 2 ^ W + fld lo (k * W) W) % 2 ^ W) W ++ lows W (gl W lo (k + 1) p h) := by
    unfold lows; simp [gl]
   rw [e1, h1.2, ih, zgq _ _ _ hin, Nat.succ_mul, Nat.succ_mul, Nat.add_comm (h.count true * W) W, List.take_add, List.drop_drop]
def seqB (W T : Nat) (l : List Nat) (B : Nat) : List Bool := bitsOf l.length 24 ++ (bitsOf B 41 ++ (lows W l ++ high W T l))
theorem zhm (v n : Nat) (r : List Bool) (hv : v < 2 ^ n) : fld (bitsOf v n ++ r) 0 n = v := by
 apply Nat.eq_of_testBit_eq; intro j
 rw [fld_testBit]
 by_cases hj : j < n
 ·rw [decide_eq_true hj, Bool.true_and, Nat.zero_add]
  unfold zb
  rw [List.getElem?_append_left (by rw [zq]; exact hj)]
  have := zcv v n j
  unfold zb at this
  rw [this, decide_eq_true hj, Bool.true_and]
 ·rw [decide_eq_false hj, Bool.false_and, zej hv (by omega)]
theorem zze (a r : List Bool) (p n : Nat) : fld (a ++ r) (a.length + p) n = fld r p n := by
 unfold fld; rw [List.drop_append, List.drop_eq_nil_of_le (by omega), List.nil_append, Nat.add_sub_cancel_left]
theorem z7p (W T : Nat) (l : List Nat) (B : Nat) (h : l.length < 16777216) : fld (seqB W T l B) 0 24 = l.length := zhm _ _ _ h
theorem z7q (W T : Nat) (l : List Nat) (B : Nat) (h : B ≤ 1099511627776) : fld (seqB W T l B) 24 41 = B := by
 have := zze (bitsOf l.length 24) (bitsOf B 41 ++ (lows W l ++ high W T l)) 0 41
 rw [zq] at this
 unfold seqB
 exact this.trans (zhm _ _ _ (by omega))
theorem zeu (W T : Nat) (l : List Nat) (B : Nat) (h : UpL W 0 l) (ht : zu W 0 l ≤ T) : (seqB W T l B).length = 65 + l.length * W + (l.length + T) := by
 unfold seqB
 rw [List.length_append, List.length_append, List.length_append, zq, zq, zbk, zdv W T l h ht]; omega
theorem z5l (W T : Nat) (l : List Nat) (B : Nat) : ((seqB W T l B).drop 65).take (l.length * W) = lows W l := by
 unfold seqB
 have e : bitsOf l.length 24 ++ (bitsOf B 41 ++ (lows W l ++ high W T l)) = (bitsOf l.length 24 ++ bitsOf B 41) ++ (lows W l ++ high W T l) := by simp
 rw [e, List.drop_left' (by rw [List.length_append, zq, zq]), ← zbk W l, List.take_left]
theorem z5m (W T : Nat) (l : List Nat) (B : Nat) : (seqB W T l B).drop (65 + l.length * W) = high W T l := by
 unfold seqB
 have e : bitsOf l.length 24 ++ (bitsOf B 41 ++ (lows W l ++ high W T l)) = (bitsOf l.length 24 ++ bitsOf B 41 ++ lows W l) ++ high W T l := by simp
 rw [e, List.drop_left' (by rw [List.length_append, List.length_append, zq, zq, zbk])]
theorem zv8 (W T : Nat) (x : List Bool) (n B : Nat) (hn : fld x 0 24 = n) (hB : fld x 24 41 = B) (hl : x.length = 65 + n * W + (n + T)) (hc : (x.drop (65 + n * W)).count true = n) :
  let l := gl W ((x.drop 65).take (n * W)) 0 0 (x.drop (65 + n * W))
  l.length = n ∧ x = seqB W T l B ∧ UpL W 0 l ∧ zu W 0 l ≤ T ∧ high W T l = x.drop (65 + n * W) ∧ lows W l = (x.drop 65).take (n * W) := by
 intro l
 have hlo : ((x.drop 65).take (n * W)).length = n * W := by rw [List.length_take, List.length_drop]; omega
 have hT : (x.drop (65 + n * W)).count false = T := by
  have := znd (x.drop (65 + n * W))
  rw [hc, List.length_drop] at this; omega
 have h1 : l.length = n := by show (gl _ _ _ _ _).length = n; rw [zj9, hc]
 have h2 : UpL W 0 l := zrj ..
 have h3 : zu W 0 l ≤ T := by have := zot W ((x.drop 65).take (n * W)) (x.drop (65 + n * W)) 0 0; rw [hT, Nat.zero_add] at this; exact this
 have h4 : high W T l = x.drop (65 + n * W) := by
  have := zxg W ((x.drop 65).take (n * W)) (x.drop (65 + n * W)) 0 0
  rw [hT, Nat.zero_add] at this
  exact this
 have h5 : lows W l = (x.drop 65).take (n * W) := by
  have := zou W ((x.drop 65).take (n * W)) (x.drop (65 + n * W)) 0 0 (by rw [hc, hlo, Nat.zero_add]; exact Nat.le_refl _)
  rw [hc, Nat.zero_mul, List.drop_zero, List.take_take, Nat.min_self] at this
  exact this
 refine ⟨h1, ?_, h2, h3, h4, h5⟩
 unfold seqB
 rw [h1, h4, h5, ← hn, ← hB, zgq x 0 24 (by omega), zgq x 24 41 (by omega), List.drop_zero]
 have e1 : (x.drop 65).take (fld x 0 24 * W) ++ x.drop (65 + fld x 0 24 * W) = x.drop 65 := by
  rw [← List.drop_drop]; exact List.take_append_drop _ _
 have e2 : (x.drop 24).take 41 ++ x.drop 65 = x.drop 24 := by
  have : x.drop 65 = (x.drop 24).drop 41 := by rw [List.drop_drop]
  rw [this]; exact List.take_append_drop _ _
 rw [e1, e2, List.take_append_drop]
theorem z1s {W T : Nat} {l m : List Nat} (hl : UpL W 0 l) (hm : UpL W 0 m) (hn : l.length = m.length) (h1 : lows W l = lows W m) (h2 : high W T l = high W T m) : l = m := by
 refine List.ext_getElem hn (fun i hi hi' => ?_)
 have el : l.take i ++ l[i] :: l.drop (i + 1) = l := by rw [← List.drop_eq_getElem_cons hi, List.take_append_drop]
 have em : m.take i ++ m[i] :: m.drop (i + 1) = m := by rw [← List.drop_eq_getElem_cons hi', List.take_append_drop]
 have ll : (l.take i).length = i := by rw [List.length_take]; omega
 have lm : (m.take i).length = i := by rw [List.length_take]; omega
 have o1 := zne (w := W) (top := T) (l1 := l.take i) (l2 := l.drop (i + 1)) (x := l[i]) (by rw [el]; exact hl)
 have o2 := zne (w := W) (top := T) (l1 := m.take i) (l2 := m.drop (i + 1)) (x := m[i]) (by rw [em]; exact hm)
 have g1 := zor W (l.take i) (l.drop (i + 1)) l[i]
 have g2 := zor W (m.take i) (m.drop (i + 1)) m[i]
 rw [el, ll] at o1 g1
 rw [em, lm, ← h2] at o2
 rw [em, lm, ← h1, g1] at g2
 have hp := zza true _ _ _ o1.2.1 o2.2.1 o1.1 o2.1 (o1.2.2.trans o2.2.2.symm)
 have d : l[i] / 2 ^ W = m[i] / 2 ^ W := by omega
 rw [← Nat.div_add_mod l[i] (2 ^ W), ← Nat.div_add_mod m[i] (2 ^ W), d, g2]
end L
end Go.Proofs.YtgpbpgpolpakjaaGreatDoor
namespace Go.Proofs.YtgpbpgpolpakjaaGreatDoor.L
theorem zxh (f : Nat → Bool) (a b : Nat) : sh (sh f a) b = sh f (a + b) := by unfold sh; funext i; rw [Nat.add_assoc]
def eb (f : Nat → Bool) (a b : Nat) : Int := ex (sh f a) (b - a)
theorem zov (f : Nat → Bool) (a : Nat) : eb f a a = 0 := by unfold eb; rw [Nat.sub_self]; rfl
theorem z7r (f : Nat → Bool) (a m b : Nat) (h1 : a ≤ m) (h2 : m ≤ b) : eb f a m + eb f m b = eb f a b := by
 unfold eb
 rw [show b - a = (m - a) + (b - m) from by omega, zea, zxh, show a + (m - a) = m from by omega]
theorem z7s (f : Nat → Bool) (a b : Nat) : -((b - a : Nat) : Int) ≤ eb f a b ∧ eb f a b ≤ (b - a : Nat) := zcp _ _
abbrev Rc := Option (Int × Int)
def mv (r : Rc) (e : Int) : Rc := r.map (fun p => (p.1 + e, p.2 + e))
def bo : Rc → Rc → Rc
 | none, r => r
 | r, none => r
 | some p, some q => some (min p.1 q.1, max p.2 q.2)
def inr : Rc → Int → Bool
 | none, _ => false
 | some p, d => decide (p.1 ≤ d) && decide (d ≤ p.2)
def rf (f : Nat → Bool) (a b : Nat) : Rc := if b ≤ a then none else some (lo (sh f a) (b - a), hi (sh f a) (b - a))
def rb (f : Nat → Bool) (a b : Nat) : Rc := if b ≤ a then none else some (min 0 (lo (sh f a) (b - 1 - a)), max 0 (hi (sh f a) (b - 1 - a)))
theorem z5n (f : Nat → Bool) (a m b : Nat) (h1 : a ≤ m) (h2 : m ≤ b) : bo (rf f a m) (mv (rf f m b) (eb f a m)) = rf f a b := by
 unfold rf
 rcases Nat.eq_or_lt_of_le h1 with e1 | e1
 ·subst e1
  rw [if_pos (Nat.le_refl _), zov]
  split
  ·rfl
  ·simp [mv, bo]
 ·rw [if_neg (by omega)]
  rcases Nat.eq_or_lt_of_le h2 with e2 | e2
  ·subst e2
   rw [if_pos (Nat.le_refl _), if_neg (by omega)]; rfl
  ·rw [if_neg (by omega), if_neg (by omega)]
   have l1 := zy3 (sh f a) (m - a) (b - m) (by omega) (by omega)
   have l2 := zy4 (sh f a) (m - a) (b - m) (by omega) (by omega)
   rw [zxh, show a + (m - a) = m from by omega, show m - a + (b - m) = b - a from by omega] at l1 l2
   rw [l1, l2]; rfl
def low (f : Nat → Bool) (n : Nat) : Int := min 0 (lo f n)
def hgh (f : Nat → Bool) (n : Nat) : Int := max 0 (hi f n)
theorem zsh (f : Nat → Bool) (c : Int) (n : Nat) : c ≤ low f n ↔ ∀ k, k ≤ n → c ≤ ex f k := by
 unfold low
 rcases Nat.eq_zero_or_pos n with h | h
 ·subst h
  constructor
  ·intro h k hk; obtain rfl : k = 0 := by omega
   simp only [ex]; omega
  ·intro h; have := h 0 (Nat.le_refl _); simp only [ex, lo] at *; omega
 ·have h1 := z4s f c n h
  constructor
  ·intro h2 k hk
   rcases Nat.eq_zero_or_pos k with h3 | h3
   ·subst h3; simp only [ex]; omega
   ·exact h1.1 (by omega) k h3 hk
  ·intro h2
   have h3 := h1.2 (fun k _ hk => h2 k hk)
   have h4 := h2 0 (by omega)
   simp only [ex] at h4; omega
theorem zsi (f : Nat → Bool) (c : Int) (n : Nat) : hgh f n ≤ c ↔ ∀ k, k ≤ n → ex f k ≤ c := by
 unfold hgh
 rcases Nat.eq_zero_or_pos n with h | h
 ·subst h
  constructor
  ·intro h k hk; obtain rfl : k = 0 := by omega
   simp only [ex]; omega
  ·intro h; have := h 0 (Nat.le_refl _); simp only [ex, hi] at *; omega
 ·have h1 := z8u f c n h
  constructor
  ·intro h2 k hk
   rcases Nat.eq_zero_or_pos k with h3 | h3
   ·subst h3; simp only [ex]; omega
   ·exact h1.1 (by omega) k h3 hk
  ·intro h2
   have h3 := h1.2 (fun k _ hk => h2 k hk)
   have h4 := h2 0 (by omega)
   simp only [ex] at h4; omega
theorem z5o (f : Nat → Bool) (a b : Nat) (h : 0 < a) : low f (a + b) = min (low f (a - 1)) (low (sh f a) b + ex f a) := by
 have key : ∀ c, c ≤ low f (a + b) ↔ c ≤ min (low f (a - 1)) (low (sh f a) b + ex f a) := fun c => by
  have h1 := zsh f c (a + b)
  have h2 := zsh f c (a - 1)
  have h3 := zsh (sh f a) (c - ex f a) b
  have e1 : c ≤ min (low f (a - 1)) (low (sh f a) b + ex f a) ↔ c ≤ low f (a - 1) ∧ c - ex f a ≤ low (sh f a) b := by omega
  rw [e1, h1, h2, h3]
  constructor
  ·intro q
   exact ⟨fun k hk => q k (by omega), fun k hk => by have := q (a + k) (by omega); rw [zea] at this; omega⟩
  ·intro q k hk
   rcases Nat.lt_or_ge k a with h4 | h4
   ·exact q.1 k (by omega)
   ·have := q.2 (k - a) (by omega)
    have e : ex f k = ex f a + ex (sh f a) (k - a) := by rw [← zea]; congr 1; omega
    omega
 have k1 := (key _).1 (Int.le_refl _)
 have k2 := (key _).2 (Int.le_refl _)
 omega
theorem z5p (f : Nat → Bool) (a b : Nat) (h : 0 < a) : hgh f (a + b) = max (hgh f (a - 1)) (hgh (sh f a) b + ex f a) := by
 have key : ∀ c, hgh f (a + b) ≤ c ↔ max (hgh f (a - 1)) (hgh (sh f a) b + ex f a) ≤ c := fun c => by
  have h1 := zsi f c (a + b)
  have h2 := zsi f c (a - 1)
  have h3 := zsi (sh f a) (c - ex f a) b
  have e1 : max (hgh f (a - 1)) (hgh (sh f a) b + ex f a) ≤ c ↔ hgh f (a - 1) ≤ c ∧ hgh (sh f a) b ≤ c - ex f a := by omega
  rw [e1, h1, h2, h3]
  constructor
  ·intro q
   exact ⟨fun k hk => q k (by omega), fun k hk => by have := q (a + k) (by omega); rw [zea] at this; omega⟩
  ·intro q k hk
   rcases Nat.lt_or_ge k a with h4 | h4
   ·exact q.1 k (by omega)
   ·have := q.2 (k - a) (by omega)
    have e : ex f k = ex f a + ex (sh f a) (k - a) := by rw [← zea]; congr 1; omega
    omega
 have k1 := (key _).1 (Int.le_refl _)
 have k2 := (key _).2 (Int.le_refl _)
 omega
theorem z8v (f : Nat → Bool) (a b : Nat) : rb f a b = if b ≤ a then none else some (low (sh f a) (b - 1 - a), hgh (sh f a) (b - 1 - a)) := rfl
theorem z5q (f : Nat → Bool) (a m b : Nat) (h1 : a ≤ m) (h2 : m ≤ b) : bo (rb f a m) (mv (rb f m b) (eb f a m)) = rb f a b := by
 simp only [z8v]
 rcases Nat.eq_or_lt_of_le h1 with e1 | e1
 ·subst e1
  rw [if_pos (Nat.le_refl _), zov]
  split
  ·rfl
  ·simp [mv, bo]
 ·rw [if_neg (by omega)]
  rcases Nat.eq_or_lt_of_le h2 with e2 | e2
  ·subst e2
   rw [if_pos (Nat.le_refl _), if_neg (by omega)]; rfl
  ·rw [if_neg (by omega), if_neg (by omega)]
   have l1 := z5o (sh f a) (m - a) (b - 1 - m) (by omega)
   have l2 := z5p (sh f a) (m - a) (b - 1 - m) (by omega)
   rw [zxh, show a + (m - a) = m from by omega, show m - a + (b - 1 - m) = b - 1 - a from by omega, show m - a - 1 = m - 1 - a from by omega] at l1 l2
   rw [l1, l2]; rfl
def lfb (F i : Nat) : Nat := (i - 2 ^ i.log2) * (F / 2 ^ i.log2)
def rtb (F i : Nat) : Nat := (i + 1 - 2 ^ i.log2) * (F / 2 ^ i.log2)
theorem z1t {i : Nat} (h : i ≠ 0) : (2 * i).log2 = i.log2 + 1 ∧ (2 * i + 1).log2 = i.log2 + 1 := by
 have h1 := Nat.log2_self_le h
 have h2 : i < 2 ^ (i.log2 + 1) := Nat.lt_log2_self
 have e1 : 2 ^ (i.log2 + 1) = 2 * 2 ^ i.log2 := by rw [Nat.pow_succ]; omega
 have e2 : 2 ^ (i.log2 + 1 + 1) = 2 * (2 * 2 ^ i.log2) := by rw [Nat.pow_succ, e1]; omega
 have key : ∀ j, 2 * i ≤ j → j ≤ 2 * i + 1 → j.log2 = i.log2 + 1 := fun j hj1 hj2 => by
  have a1 := (Nat.le_log2 (n := j) (by omega) (k := i.log2 + 1)).2 (by omega)
  have a2 := (Nat.log2_lt (n := j) (by omega) (k := i.log2 + 1 + 1)).2 (by omega)
  omega
 exact ⟨key _ (by omega) (by omega), key _ (by omega) (by omega)⟩
theorem zxi (h i : Nat) (h0 : 0 < i) (hi : i < 2 ^ h) :
  lfb (2 ^ h) (2 * i) = lfb (2 ^ h) i ∧ rtb (2 ^ h) (2 * i) = lfb (2 ^ h) (2 * i + 1) ∧ rtb (2 ^ h) (2 * i + 1) = rtb (2 ^ h) i := by
 obtain ⟨e1, e2⟩ := z1t (i := i) (by omega)
 have hl : i.log2 < h := (Nat.log2_lt (by omega)).2 hi
 have h1 := Nat.log2_self_le (n := i) (by omega)
 unfold lfb rtb
 rw [e1, e2]
 have q1 : 2 ^ h / 2 ^ (i.log2 + 1) = 2 ^ (h - (i.log2 + 1)) := Nat.pow_div (by omega) (by omega)
 have q2 : 2 ^ h / 2 ^ i.log2 = 2 * 2 ^ (h - (i.log2 + 1)) := by rw [Nat.pow_div (by omega) (by omega), show h - i.log2 = (h - (i.log2 + 1)) + 1 from by omega, Nat.pow_succ]; omega
 have q3 : 2 ^ (i.log2 + 1) = 2 * 2 ^ i.log2 := by rw [Nat.pow_succ]; omega
 rw [q1, q2, q3]
 generalize 2 ^ i.log2 = P at *
 generalize 2 ^ (h - (i.log2 + 1)) = Q at *
 refine ⟨?_, ?_, ?_⟩
 ·rw [show 2 * i - 2 * P = 2 * (i - P) from by omega, Nat.mul_comm 2 (i - P), Nat.mul_assoc]
 ·rfl
 ·rw [show 2 * i + 1 + 1 - 2 * P = 2 * (i + 1 - P) from by omega, Nat.mul_comm 2 (i + 1 - P), Nat.mul_assoc]
theorem zzf (h : Nat) : lfb (2 ^ h) 1 = 0 ∧ rtb (2 ^ h) 1 = 2 ^ h := by
 have e : Nat.log2 1 = 0 := by decide
 unfold lfb rtb; rw [e]; simp
theorem zzg (h i : Nat) (hi : 2 ^ h ≤ i) (hi2 : i < 2 * 2 ^ h) : lfb (2 ^ h) i = i - 2 ^ h ∧ rtb (2 ^ h) i = i - 2 ^ h + 1 := by
 have hp := Nat.two_pow_pos h
 have e : i.log2 = h := by
  have a1 := (Nat.le_log2 (n := i) (by omega) (k := h)).2 hi
  have a2 := (Nat.log2_lt (n := i) (by omega) (k := h + 1)).2 (by rw [Nat.pow_succ]; omega)
  omega
 unfold lfb rtb; rw [e, Nat.div_self hp]; omega
theorem z5r (F i : Nat) (h : i ≠ 0) : lfb F i ≤ rtb F i := Nat.mul_le_mul_right _ (by omega)
def nA (n F i : Nat) : Nat := min (512 * lfb F i) n
def nB (n F i : Nat) : Nat := min (512 * rtb F i) n
theorem znh (n F i : Nat) (h : i ≠ 0) : nA n F i ≤ nB n F i ∧ nB n F i ≤ n := by
 have := z5r F i h; unfold nA nB; omega
theorem z5s (n h i : Nat) (h0 : 0 < i) (hi : i < 2 ^ h) :
  nA n (2 ^ h) (2 * i) = nA n (2 ^ h) i ∧ nB n (2 ^ h) (2 * i) = nA n (2 ^ h) (2 * i + 1) ∧ nB n (2 ^ h) (2 * i + 1) = nB n (2 ^ h) i := by
 obtain ⟨e1, e2, e3⟩ := zxi h i h0 hi
 unfold nA nB; rw [e1, e2, e3]; exact ⟨rfl, rfl, rfl⟩
theorem z7t (n h : Nat) (hn : n ≤ 512 * 2 ^ h) : nA n (2 ^ h) 1 = 0 ∧ nB n (2 ^ h) 1 = n := by
 obtain ⟨e1, e2⟩ := zzf h
 unfold nA nB; rw [e1, e2]; omega
theorem z7u (n h i : Nat) (hi : 2 ^ h ≤ i) (hi2 : i < 2 * 2 ^ h) : nA n (2 ^ h) i = min (512 * (i - 2 ^ h)) n ∧ nB n (2 ^ h) i = min (512 * (i - 2 ^ h) + 512) n := by
 obtain ⟨e1, e2⟩ := zzg h i hi hi2
 unfold nA nB; rw [e1, e2]; omega
def nE (f : Nat → Bool) (n F i : Nat) : Int := eb f (nA n F i) (nB n F i)
def nF (f : Nat → Bool) (n F i : Nat) : Rc := rf f (nA n F i) (nB n F i)
def nK (f : Nat → Bool) (n F i : Nat) : Rc := rb f (nA n F i) (nB n F i)
theorem z7v (f : Nat → Bool) (n h i : Nat) (h0 : 0 < i) (hi : i < 2 ^ h) :
  nE f n (2 ^ h) i = nE f n (2 ^ h) (2 * i) + nE f n (2 ^ h) (2 * i + 1) ∧
  nF f n (2 ^ h) i = bo (nF f n (2 ^ h) (2 * i)) (mv (nF f n (2 ^ h) (2 * i + 1)) (nE f n (2 ^ h) (2 * i))) ∧
  nK f n (2 ^ h) i = bo (nK f n (2 ^ h) (2 * i)) (mv (nK f n (2 ^ h) (2 * i + 1)) (nE f n (2 ^ h) (2 * i))) := by
 obtain ⟨e1, e2, e3⟩ := z5s n h i h0 hi
 have l1 := (znh n (2 ^ h) (2 * i) (by omega)).1
 have l2 := (znh n (2 ^ h) (2 * i + 1) (by omega)).1
 unfold nE nF nK
 rw [e2] at l1
 rw [e2, e1, e3]
 rw [e1] at l1
 rw [e3] at l2
 exact ⟨(z7r f _ _ _ l1 l2).symm, (z5n f _ _ _ l1 l2).symm, (z5q f _ _ _ l1 l2).symm⟩
end Go.Proofs.YtgpbpgpolpakjaaGreatDoor.L
