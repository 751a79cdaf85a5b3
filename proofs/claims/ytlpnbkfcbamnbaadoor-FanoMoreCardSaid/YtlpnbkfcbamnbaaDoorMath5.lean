/- Plain laws: when bytes are a row's, and whose. -/
import Derived.Test.YtlpnbkfcbamnbaaDoorMath4
set_option linter.unusedVariables false
set_option linter.unusedSimpArgs false
namespace Go.Proofs.YtlpnbkfcbamnbaaDoor

/-- Bytes as numbers. -/
def nats (l : List UInt8) : List Nat := l.map UInt8.toNat
theorem nats_lt (l : List UInt8) : ∀ b ∈ nats l, b < 256 := by
  intro b hb
  obtain ⟨x, _, rfl⟩ := List.mem_map.1 hb
  exact UInt8.toNat_lt x
/-- The number of a string's first bytes. -/
def leTo (s : ByteArray) (k : Nat) : Nat := L.nest (nats (s.data.toList.take k))

namespace L

theorem nest_testBit : ∀ (l : List Nat), (∀ b ∈ l, b < 256) → ∀ (q r : Nat), r < 8 → (nest l).testBit (8 * q + r) = (l[q]?.getD 0).testBit r
  | [], _, q, r, _ => by simp [nest]
  | b :: l, h, 0, r, hr => by
    have hb := h b List.mem_cons_self
    have e : nest (b :: l) % 2 ^ 8 = b := by simp only [nest]; omega
    have := Nat.testBit_mod_two_pow (nest (b :: l)) 8 r
    rw [e] at this
    simp [hr] at this
    simpa using this.symm
  | b :: l, h, q + 1, r, hr => by
    have ih := nest_testBit l (fun c hc => h c (List.mem_cons_of_mem _ hc)) q r hr
    have hb := h b List.mem_cons_self
    have e : nest (b :: l) / 2 ^ 8 = nest l := by simp only [nest]; omega
    have : (nest (b :: l) / 2 ^ 8).testBit (8 * q + r) = (nest (b :: l)).testBit (8 * q + r + 8) := Nat.testBit_div_two_pow _ _
    rw [e, ih] at this
    rw [show 8 * (q + 1) + r = 8 * q + r + 8 from by omega, ← this]
    simp

theorem leB_cons (x y n : Nat) (hx : x < 256) : leB (x + 256 * y) (n + 1) = UInt8.ofNat x :: leB y n := by
  unfold leB
  rw [List.range_succ_eq_map, List.map_cons, List.map_map]
  congr 1
  · apply UInt8.toNat_inj.1
    rw [UInt8.toNat_ofNat', UInt8.toNat_ofNat', Nat.pow_zero, Nat.div_one]; omega
  · apply List.map_congr_left
    intro i _
    simp only [Function.comp]
    rw [Nat.pow_succ, Nat.mul_comm (256 ^ i) 256, ← Nat.div_div_eq_div_mul, show (x + 256 * y) / 256 = y from by omega]

/-- The bytes of the number of eight bytes are those bytes. -/
theorem leB_nest : ∀ (l : List UInt8), leB (nest (nats l)) l.length = l
  | [] => rfl
  | b :: l => by
    have e0 : nest (nats (b :: l)) = b.toNat + 256 * nest (nats l) := rfl
    rw [e0, List.length_cons, leB_cons _ _ _ (UInt8.toNat_lt b), leB_nest l]
    simp

theorem nest_leB (k : Nat) : ∀ v : Nat, nest (nats (leB v k)) = v % 256 ^ k := by
  induction k with
  | zero => intro v; simp [leB, nats, nest, Nat.mod_one]
  | succ k ih =>
    intro v
    have e : nats (leB v (k + 1)) = v % 256 :: nats (leB (v / 256) k) := by
      unfold leB nats
      rw [List.range_succ_eq_map, List.map_cons, List.map_cons, List.map_map, List.map_map, List.map_map]
      congr 1
      · simp [UInt8.toNat_ofNat']
      · apply List.map_congr_left
        intro i _
        simp only [Function.comp]
        rw [Nat.pow_succ, Nat.mul_comm (256 ^ i) 256, ← Nat.div_div_eq_div_mul]
    rw [e, nest, ih, Nat.pow_succ, Nat.mul_comm (256 ^ k) 256, Nat.mod_mul]

/-- The bytes behind the first eight, eight by eight. -/
def wordL (l : List UInt8) (i : Nat) : Nat := nest (nats ((l.drop (8 + 8 * i)).take 8))
/-- The number of the first eight bytes. -/
def valL (l : List UInt8) : Nat := nest (nats (l.take 8))
/-- The bits behind the first eight bytes. -/
def bitsL (l : List UInt8) (m : Nat) : List Bool := (List.range m).map fun i => (l[8 + i / 8]?.getD 0).toNat.testBit (i % 8)
theorem bitsL_length (l : List UInt8) (m : Nat) : (bitsL l m).length = m := by simp [bitsL]
theorem bitsL_succ (l : List UInt8) (m : Nat) : bitsL l (m + 1) = bitsL l m ++ [(l[8 + m / 8]?.getD 0).toNat.testBit (m % 8)] := by simp [bitsL, List.range_succ]
theorem bitAt_bitsL (l : List UInt8) (m i : Nat) (h : i < m) : bitAt (bitsL l m) i = (l[8 + i / 8]?.getD 0).toNat.testBit (i % 8) := by
  unfold bitAt bitsL; simp [List.getElem?_range h]

theorem wordL_testBit (l : List UInt8) (i j : Nat) (hj : j < 64) : (wordL l i).testBit j = (l[8 + (64 * i + j) / 8]?.getD 0).toNat.testBit ((64 * i + j) % 8) := by
  unfold wordL
  have h := nest_testBit (nats ((l.drop (8 + 8 * i)).take 8)) (nats_lt _) (j / 8) (j % 8) (by omega)
  rw [show 8 * (j / 8) + j % 8 = j from by omega] at h
  rw [h, nats, List.getElem?_map, List.getElem?_take, if_pos (by omega), List.getElem?_drop, show 8 + 8 * i + j / 8 = 8 + (64 * i + j) / 8 from by omega, show (64 * i + j) % 8 = j % 8 from by omega]
  cases l[8 + (64 * i + j) / 8]? <;> rfl

/-- Are these bytes a row's? As the program asks. -/
def goodL (l : List UInt8) : Prop := 8 ≤ l.length ∧ valL l ≤ 4294967296 ∧ l.length = 8 + 8 * nwords (valL l) ∧ (valL l % 64 = 0 ∨ need (wordL l (valL l / 64)) ≤ valL l % 64)

theorem wordL_lt (l : List UInt8) (i : Nat) : wordL l i < 18446744073709551616 := by
  have h := nest_lt (nats ((l.drop (8 + 8 * i)).take 8)) (nats_lt _)
  have h2 : (nats ((l.drop (8 + 8 * i)).take 8)).length ≤ 8 := by simp [nats, List.length_take]; omega
  have h3 : (256 : Nat) ^ (nats ((l.drop (8 + 8 * i)).take 8)).length ≤ 256 ^ 8 := Nat.pow_le_pow_right (by omega) h2
  have h4 : (256 : Nat) ^ 8 = 18446744073709551616 := by decide
  unfold wordL; omega

theorem good_word {l : List UInt8} (h : goodL l) {i : Nat} (hi : i < nwords (valL l)) : wordAt (bitsL l (valL l)) i = wordL l i := by
  obtain ⟨h1, h2, h3, h4⟩ := h
  apply Nat.eq_of_testBit_eq; intro j
  rw [wordAt_testBit]
  by_cases hj : j < 64
  · by_cases hv : 64 * i + j < valL l
    · rw [bitAt_bitsL _ _ _ hv, wordL_testBit _ _ _ hj]; simp [hj]
    · rw [bitAt_ge _ _ (by rw [bitsL_length]; omega)]
      have hi2 : i = valL l / 64 := by unfold nwords at hi; omega
      subst hi2
      have h5 : valL l % 64 ≠ 0 := by unfold nwords at hi; omega
      have h6 := (need_le_iff _ _ (wordL_lt l (valL l / 64))).1 (h4.resolve_left h5)
      have h7 := testBit_lt (j := j) h6 (by omega)
      simp [h7]
  · have : (wordL l i).testBit j = false := by
      apply Nat.testBit_lt_two_pow
      have := wordL_lt l i
      have h64 : (18446744073709551616 : Nat) = 2 ^ 64 := by decide
      rw [h64] at this
      exact Nat.lt_of_lt_of_le this (Nat.pow_le_pow_right (by omega) (by omega))
    simp [hj, this]

theorem chunks : ∀ (m : Nat) (l : List UInt8), l.length = 8 * m → (List.range m).flatMap (fun i => (l.drop (8 * i)).take 8) = l
  | 0, l, h => by have : l = [] := List.eq_nil_of_length_eq_zero (by omega)
                  subst this; rfl
  | m + 1, l, h => by
    have ih := chunks m (l.drop 8) (by rw [List.length_drop]; omega)
    rw [List.range_succ_eq_map, List.flatMap_cons, List.flatMap_map]
    have e : ∀ i, (l.drop (8 * (i + 1))).take 8 = ((l.drop 8).drop (8 * i)).take 8 := fun i => by rw [List.drop_drop, show 8 * (i + 1) = 8 + 8 * i from by omega]
    simp only [Nat.succ_eq_add_one, e, ih]
    simp

theorem good_bytes {l : List UInt8} (h : goodL l) : rowBytes (bitsL l (valL l)) = l := by
  have hg := h
  obtain ⟨h1, h2, h3, h4⟩ := h
  unfold rowBytes
  rw [bitsL_length]
  have e1 : leB (valL l) 8 = l.take 8 := by
    have := leB_nest (l.take 8)
    rw [List.length_take, Nat.min_eq_left h1] at this
    exact this
  have e2 : words (bitsL l (valL l)) = (List.range (nwords (valL l))).map (wordL l) := by
    unfold words
    rw [bitsL_length]
    apply List.map_congr_left
    intro i hi
    exact good_word hg (List.mem_range.1 hi)
  have e3 : ((List.range (nwords (valL l))).map (wordL l)).flatMap (leB · 8) = l.drop 8 := by
    have hc := chunks (nwords (valL l)) (l.drop 8) (by rw [List.length_drop]; omega)
    rw [List.flatMap_map]
    refine Eq.trans ?_ hc
    rw [List.flatMap_def, List.flatMap_def]
    congr 1
    apply List.map_congr_left
    intro i hi
    have hi' := List.mem_range.1 hi
    have := leB_nest ((l.drop (8 + 8 * i)).take 8)
    rw [List.length_take, List.length_drop, Nat.min_eq_left (by omega)] at this
    rw [List.drop_drop]
    exact this
  rw [e1, e2, e3, List.take_append_drop]

theorem drop_flatMap : ∀ (ws : List Nat) (i : Nat) (h : i < ws.length), ((ws.flatMap (leB · 8)).drop (8 * i)).take 8 = leB ws[i] 8
  | w :: ws, 0, _ => by
    rw [List.flatMap_cons]
    simp only [Nat.mul_zero, List.drop_zero, List.getElem_cons_zero]
    rw [List.take_append_of_le_length (by rw [leB_length]; omega), List.take_of_length_le (by rw [leB_length]; omega)]
  | w :: ws, i + 1, h => by
    rw [List.flatMap_cons, show 8 * (i + 1) = 8 + 8 * i from by omega, List.drop_append, leB_length]
    rw [List.drop_eq_nil_of_le (by rw [leB_length]; omega), List.nil_append, show 8 + 8 * i - 8 = 8 * i from by omega]
    exact drop_flatMap ws i (by simpa using h)

theorem row_val (bs : List Bool) (h : bs.length ≤ 4294967296) : valL (rowBytes bs) = bs.length := by
  unfold valL rowBytes
  rw [List.take_append_of_le_length (by rw [leB_length]; omega), List.take_of_length_le (by rw [leB_length]; omega), nest_leB]
  exact Nat.mod_eq_of_lt (Nat.lt_of_le_of_lt h (by decide))
theorem row_length (bs : List Bool) : (rowBytes bs).length = 8 + 8 * nwords bs.length := by
  unfold rowBytes; rw [List.length_append, leB_length, flatMap_leB_length, words_length]
theorem row_word (bs : List Bool) {i : Nat} (hi : i < nwords bs.length) : wordL (rowBytes bs) i = wordAt bs i := by
  unfold wordL rowBytes
  rw [List.drop_append, leB_length, List.drop_eq_nil_of_le (by rw [leB_length]; omega), List.nil_append, show 8 + 8 * i - 8 = 8 * i from by omega, drop_flatMap _ i (by rw [words_length]; exact hi), nest_leB]
  have := words_get bs hi
  rw [List.getElem?_eq_getElem (by rw [words_length]; exact hi)] at this
  injection this with this
  rw [this]
  exact Nat.mod_eq_of_lt (Nat.lt_of_lt_of_eq (wordAt_lt bs i) (by decide))

theorem row_bits (bs : List Bool) : bitsL (rowBytes bs) bs.length = bs := by
  apply ext_bits
  · rw [bitsL_length]
  · intro i hi
    rw [bitsL_length] at hi
    have hw : i / 64 < nwords bs.length := by unfold nwords; omega
    have h1 := wordL_testBit (rowBytes bs) (i / 64) (i % 64) (by omega)
    rw [show 64 * (i / 64) + i % 64 = i from by omega, row_word bs hw, wordAt_testBit, show 64 * (i / 64) + i % 64 = i from by omega] at h1
    have h64 : i % 64 < 64 := by omega
    rw [bitAt_bitsL _ _ _ hi, ← h1]; simp [h64]

theorem row_good (bs : List Bool) (h : bs.length ≤ 4294967296) : goodL (rowBytes bs) := by
  refine ⟨by rw [row_length]; omega, by rw [row_val bs h]; exact h, by rw [row_val bs h, row_length], ?_⟩
  rw [row_val bs h]
  by_cases h0 : bs.length % 64 = 0
  · exact .inl h0
  · right
    rw [row_word bs (by unfold nwords; omega), need_le_iff _ _ (wordAt_lt _ _)]
    have := num_lt ((bs.drop (64 * (bs.length / 64))).take 64)
    rw [List.length_take, List.length_drop, show min 64 (bs.length - 64 * (bs.length / 64)) = bs.length % 64 from by omega] at this
    exact this

/-- The program's question and the reference's are one. -/
theorem good_iff (l : List UInt8) : goodL l ↔ ∃ bs : List Bool, bs.length ≤ 4294967296 ∧ l = rowBytes bs := by
  constructor
  · intro h
    exact ⟨bitsL l (valL l), by rw [bitsL_length]; exact h.2.1, (good_bytes h).symm⟩
  · rintro ⟨bs, h, rfl⟩
    exact row_good bs h

end L
end Go.Proofs.YtlpnbkfcbamnbaaDoor
