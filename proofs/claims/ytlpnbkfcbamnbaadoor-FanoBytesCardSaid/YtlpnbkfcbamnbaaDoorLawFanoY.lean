/- Walks: the law FanoBytes returns true. -/
import Derived.Test.YtlpnbkfcbamnbaaDoorLawFanoP

import Derived.Test.YtlpnbkfcbamnbaaDoorRefFano
import Derived.Test.YtlpnbkfcbamnbaaDoorFanoR
set_option linter.unusedVariables false
set_option linter.unusedSimpArgs false
set_option maxRecDepth 100000
namespace Go.Proofs.YtlpnbkfcbamnbaaDoor
open Go.RowKit Go.Shelf L

/-- The rows' bits are not many. -/
theorem L.size_bound (n B k : Nat) (h0 : 0 < n) (hB1 : 1 ≤ B) (hB : B ≤ 1099511627776) (hk : B ≤ n * 2 ^ k) : n * wd n B + (n + ((B - 1) / 2 ^ wd n B + 1)) ≤ 2 * n + k * n + 2 := by
  have h1 := wd_few n B h0 (by omega)
  have h2 : wd n B ≠ 0 → n * 2 ^ wd n B ≤ B := fun h => by
    unfold wd at h ⊢
    split at h
    · exact absurd rfl h
    · rename_i q
      rw [if_neg q]
      have hq := need_spec (B / n) (Nat.lt_of_le_of_lt (Nat.div_le_self _ _) (by omega))
      have hne : need (B / n) ≠ 0 := by omega
      have := hq.2.1 hne
      have h3 : 2 ^ (need (B / n) - 1) * n ≤ B := (Nat.le_div_iff_mul_le h0).1 this
      rw [Nat.mul_comm]; exact h3
  generalize wd n B = W at *
  have hp := Nat.two_pow_pos W
  have hWk : W ≤ k := by
    rcases Nat.lt_or_ge k W with h | h
    · have h3 := h2 (by omega)
      have h4 : 2 ^ k < 2 ^ W := Nat.pow_lt_pow_right (by omega) h
      have h5 : n * 2 ^ k < n * 2 ^ W := Nat.mul_lt_mul_of_pos_left h4 h0
      omega
    · exact h
  have hq1 : (B - 1) / 2 ^ W ≤ B / 2 ^ W := Nat.div_le_div_right (by omega)
  have hkn : k * n = n * k := Nat.mul_comm _ _
  rcases Nat.eq_or_lt_of_le hWk with h | h
  · subst h
    have h3 : (B - 1) / 2 ^ W < n := by
      rw [Nat.div_lt_iff_lt_mul hp]; omega
    rw [hkn]
    generalize n * W = m at *
    generalize (B - 1) / 2 ^ W = q at *
    omega
  · have h3 : n * W + n ≤ n * k := by rw [← Nat.mul_succ]; exact Nat.mul_le_mul_left _ h
    rw [hkn]
    generalize n * W = m at *
    generalize n * k = r at *
    generalize (B - 1) / 2 ^ W = q at *
    omega
/-- The bytes are few. -/
theorem L.few_bytes {l : List Nat} {B : Nat} (hr : RightN l B) (hf : fewB l.length (B : Nat) = true) : (rowBytes (seqB (wd l.length B) (top l B) l B)).length ≤ 1100 := by
  have hlen := seqB_length (wd l.length B) (top l B) l B (hr.up _) (Nat.le_trans (hr.last _) (Nat.le_succ _))
  have hwd := wd_le l.length B hr.1.2
  rw [row_length, hlen]
  unfold fewB at hf
  simp only [Bool.and_eq_true, Bool.or_eq_true, decide_eq_true_eq, Int.toNat_natCast] at hf
  have hm : l.length * wd l.length B ≤ 100 * 40 := Nat.mul_le_mul hf.1 hwd
  have hq1 : (B - 1) / 2 ^ wd l.length B ≤ B / 2 ^ wd l.length B := Nat.div_le_div_right (by omega)
  have hq2 : (B - 1) / 2 ^ wd l.length B ≤ B - 1 := Nat.div_le_self _ _
  have ht : top l B = (B - 1) / 2 ^ wd l.length B + 1 := rfl
  rw [ht]
  unfold nwords
  generalize l.length * wd l.length B = m at *
  generalize (B - 1) / 2 ^ wd l.length B = q at *
  generalize B / 2 ^ wd l.length B = q2 at *
  omega

set_option maxHeartbeats 2000000 in
theorem lawFanoBytes_many (A : Option Addr) (n c : Nat) (B : Int) (w : World) (hB : B ≤ 9223372036854775807) (hf : fewB n B = false) (hT : Tab w) :
    Calls Tryd.prog 9 #[.slice A n c, .int .i64 B] w fun e w' => e = .returned (.bool true) ∧ Below w.heap.size w w' := by
  have HF := hid (fun W => few_any A c n B W (by omega) hB)
  rw [hf] at HF
  clear hf
  go_enter Tryd.func9, Tryd.ntmps9
  go_wp2_with fail
  refine (awake5 _ hT).mono ?_
  rintro e w1 ⟨rfl, hB1⟩
  go_wp2_with fail
  refine (HF.out _).mono ?_
  rintro e w3 ⟨rfl, rfl⟩
  go_wp2_with fail
  refine (awake5 _ (hT.below hB1)).mono ?_
  rintro e w2 ⟨rfl, hB2⟩
  go_wp2_with fail
  go_ret
  exact ⟨rfl, hB1.trans (hB2.mono hB1.size)⟩

set_option maxHeartbeats 2000000 in
theorem lawFanoBytes_wrong (A : Option Addr) (c : Nat) (zs : List Int) (B : Int) (w : World) (hl : Lst w A (ints zs)) (hn : zs.length ≤ 1000000) (hB : B ≤ 9223372036854775807) (hf : fewB zs.length B = true) (hr : ¬ RightZ zs B) (hT : Tab w) :
    Calls Tryd.prog 9 #[.slice A zs.length c, .int .i64 B] w fun e w' => e = .returned (.bool true) ∧ Below w.heap.size w w' := by
  have HF := hid (fun W => few_any A c zs.length B W (by omega) hB)
  rw [hf] at HF
  have HR := hid hr
  clear hf hr
  go_enter Tryd.func9, Tryd.ntmps9
  go_wp2_with fail
  refine (awake5 _ hT).mono ?_
  rintro e w1 ⟨rfl, hB1⟩
  have hz1 := hB1.size
  go_wp2_with fail
  refine (HF.out _).mono ?_
  rintro e w3 ⟨rfl, rfl⟩
  go_wp2_with fail
  refine (refRight_is A c zs B _ (hl.below hB1) (by omega) false ⟨fun h => (by cases h), fun h => absurd h HR.out⟩).mono ?_
  rintro e w2 ⟨rfl, hB2⟩
  have hBb := hB1.trans (hB2.mono hz1)
  have hzb := hBb.size
  go_wp2_with fail
  refine (awake5 _ (hT.below hBb)).mono ?_
  rintro e w4 ⟨rfl, hB4⟩
  go_wp2_with fail
  go_ret
  exact ⟨rfl, hBb.trans (hB4.mono hzb)⟩

set_option maxHeartbeats 4000000 in
theorem lawFanoBytes_true (A : Option Addr) (c : Nat) (l : List Nat) (B : Nat) (w : World) (hl : Lst w A (natCells l)) (hT : Tab w) (hr : RightN l B) (hf : fewB l.length (B : Nat) = true) :
    Calls Tryd.prog 9 #[.slice A l.length c, .int .i64 (B : Nat)] w fun e w' => e = .returned (.bool true) ∧ Below w.heap.size w w' := by
  have hFew := fewB_few hf hr
  have hn := fewB_le hf
  have hB1 := hr.1
  have HF := hid (fun W => few_any A c l.length (B : Nat) W (by omega) (by omega))
  have hfb := few_bytes hr hf
  rw [hf] at HF
  clear hf
  have HRI := hid (fun W hW => refRight_yes (A := A) (c := c) hr (by omega) W hW)
  have HM := hid (fun W hW => make_ok A c l B W hW hr hFew)
  have HRW := hid (fun W hW => refRows_any A c l B W hW hr hFew)
  have HRB := hid (fun W hW => refSeqBytes_any A c l B W hW hr hFew)
  have HSB := hid (fun s W hs hT => seqBytes_any s l B W hs hT hr hFew)
  have HSZ := hid (fun s W hs => size_any s l B W hs hr hFew)
  have hlo := lows_length (wd l.length B) l
  have hhi := high_length (wd l.length B) (top l B) l (hr.up _) (Nat.le_trans (hr.last _) (Nat.le_succ _))
  have HOV := hid (fun s W hs => over_any s l B W hs)
  rw [hhi] at HOV
  have HBD := hid (fun k (h0 : 0 < l.length) (hk : B ≤ l.length * 2 ^ k) => size_bound l.length B k h0 hB1.1 hB1.2 hk)
  have ht : top l B = (B - 1) / 2 ^ wd l.length B + 1 := rfl
  rw [← ht] at HBD
  have hsql := seqB_length (wd l.length B) (top l B) l B (hr.up _) (Nat.le_trans (hr.last _) (Nat.le_succ _))
  have hISQ : IsSeq (seqB (wd l.length B) (top l B) l B) l B := ⟨hr, by omega, rfl⟩
  have hwd := wd_le l.length B hr.1.2
  have hm : l.length * wd l.length B ≤ 100 * 40 := Nat.mul_le_mul hn hwd
  have htp : (B - 1) / 2 ^ wd l.length B ≤ 100000 := hFew.2
  have htb : top l B ≤ 100001 := by omega
  clear ht htp hlo hhi hFew
  have HOF := hid (show ∀ W, Tab W → Calls Tryd.prog 38 #[.string ⟨(rowBytes (seqB (wd l.length B) (top l B) l B)).toArray⟩] W fun e w' => ∃ u, e = .returned (.tuple #[.pointer (some ⟨u, 0, none⟩), .int .i64 0]) ∧ SeqAt w' u l B ∧ Below W.heap.size W w' from fun W hW => by
    have hlb : (seqB (wd l.length B) (top l B) l B).length ≤ 4294967296 := by rw [hsql]; generalize l.length * wd l.length B = r at *; omega
    refine (fOf_any ⟨(rowBytes (seqB (wd l.length B) (top l B) l B)).toArray⟩ W (by show (rowBytes _).toArray.size ≤ _; rw [List.size_toArray]; exact hfb) hW).mono ?_
    have e1 : (⟨(rowBytes (seqB (wd l.length B) (top l B) l B)).toArray⟩ : ByteArray).data.toList = rowBytes (seqB (wd l.length B) (top l B) l B) := rfl
    rw [e1]
    rintro e w' ⟨hB, h⟩
    rw [row_val _ hlb, row_bits] at h
    rcases h with ⟨s, m, C, rfl, hs, _, _, hq⟩ | ⟨_, hno⟩
    · obtain ⟨rfl, rfl⟩ := hISQ.uniq hq
      exact ⟨s, rfl, hs, hB⟩
    · exact absurd hISQ (hno (row_good _ hlb) l B))
  clear hISQ hsql hfb hr
  generalize rowBytes (seqB (wd l.length B) (top l B) l B) = rb at *
  generalize lows (wd l.length B) l = lo at *
  generalize high (wd l.length B) (top l B) l = hi at *
  generalize l.length * wd l.length B = LL at *
  generalize hNE : l.length + top l B = N at *
  have hNb : N ≤ 100101 := by omega
  clear hNE htb hwd
  generalize hTS : (⟨rb.toArray⟩ : ByteArray) = ts at *
  clear hTS
  obtain ⟨Z, hZ⟩ : ∃ Z, Z = LL + N := ⟨_, rfl⟩
  rw [← hZ] at HSZ HBD
  have hLN : IntKind.i64.wrap ((LL : Int) + (N : Int)) = (Z : Int) := by rw [IntKind.wrap_i64]; omega
  have hZb : Z ≤ 104101 := by omega
  clear hZ
  obtain ⟨M3, hM3⟩ : ∃ M3, M3 = 3 * N := ⟨_, rfl⟩
  have h3N : IntKind.i64.wrap (3 * (N : Int)) = (M3 : Int) := by rw [IntKind.wrap_i64]; omega
  have hM3b : M3 ≤ 300303 := by omega
  have h3D : IntKind.i64.wrap ((M3 : Int) / 2) = (M3 : Int) / 2 := by rw [IntKind.wrap_i64]; omega
  have h3E : IntKind.i64.wrap ((M3 : Int) / 2 + 1024) = (M3 : Int) / 2 + 1024 := by rw [IntKind.wrap_i64]; omega
  rw [← hM3] at HOV
  clear hM3
  go_enter Tryd.func9, Tryd.ntmps9
  go_wp2_with fail
  refine (awake5 _ hT).mono ?_
  rintro e w1 ⟨rfl, hB1⟩
  have hz1 := hB1.size
  go_wp2_with fail
  refine (HF.out _).mono ?_
  rintro e w3 ⟨rfl, rfl⟩
  go_wp2_with fail
  refine (HRI.out _ (hl.below hB1)).mono ?_
  rintro e w2 ⟨rfl, hB2⟩
  have hBb := hB1.trans (hB2.mono hz1)
  have hzb := hBb.size
  clear hB1 hB2
  go_wp2_with fail
  refine (HM.out _ (hl.below hBb)).mono ?_
  rintro e w4 ⟨s, rfl, hs, hB4, _⟩
  have hBc := hBb.trans (hB4.mono hzb)
  have hzc := hBc.size
  clear hBb hB4
  go_wp2_with fail
  refine (HRW.out _ (hl.below hBc)).mono ?_
  rintro e w5 ⟨A1, c1, A2, c2, rfl, _, _, hB5⟩
  have hs5 := hs.below hB5
  have hBd := hBc.trans (hB5.mono hzc)
  have hzd := hBd.size
  clear hBc hs hB5
  go_wp2_with fail
  refine (HSB.out s _ hs5 (hT.below hBd)).mono ?_
  rintro e w6 ⟨rfl, hB6⟩
  have hs6 := hs5.below hB6
  have hBe := hBd.trans (hB6.mono hzd)
  have hze := hBe.size
  clear hBd hs5 hB6
  go_wp2_with fail
  refine (HOF.out _ (hT.below hBe)).mono ?_
  rintro e w7 ⟨u, rfl, hu, hB7⟩
  have hs7 := hs6.below hB7
  have hBf := hBe.trans (hB7.mono hze)
  have hzf := hBf.size
  clear hBe hs6 hB7
  go_wp2_with fail
  refine (HRB.out _ (hl.below hBf)).mono ?_
  rintro e w8 ⟨rfl, hB8⟩
  have hs8 := hs7.below hB8
  have hu8 := hu.below hB8
  have hBg := hBf.trans (hB8.mono hzf)
  have hzg := hBg.size
  clear hBf hs7 hu hB8
  go_wp2_with fail
  refine (HSB.out u _ hu8 (hT.below hBg)).mono ?_
  rintro e w9 ⟨rfl, hB9⟩
  have hs9 := hs8.below hB9
  have hu9 := hu8.below hB9
  have hBh := hBg.trans (hB9.mono hzg)
  have hzh := hBh.size
  clear hBg hs8 hu8 hB9
  go_wp2_with fail
  refine (seqLen_any u l B _ hu9).mono ?_
  rintro e w' ⟨rfl, rfl⟩
  go_wp2_with fail
  go_loopw [12] (fun kv wr => ∃ k : Nat, k ≤ 40 ∧ kv = .int .i64 (k : Nat) ∧ wr = w9) (fun kv _ => 41 - (intOf kv).toNat)
  case atStart => exact ⟨0, by omega, rfl, rfl⟩
  case round =>
    obtain ⟨k, hk, rfl, rfl⟩ := hrel
    have hkw := wrap_one k (by omega)
    have hk64 : min k 64 = k := by omega
    have hk0 : (0 : Int) ≤ (k : Int) := by omega
    have hX : (l.length : Int) * 2 ^ k = ((l.length * 2 ^ k : Nat) : Int) := by norm_cast
    have hXb : l.length * 2 ^ k ≤ 100 * 2 ^ 40 := Nat.mul_le_mul hn (Nat.pow_le_pow_right (by omega) hk)
    have HBK := hid (HBD.out k)
    have HK4 := hid (show l.length ≠ 0 → l.length * 2 ^ k < B → k < 40 from fun h0 h => by
      rcases Nat.lt_or_ge k 40 with h2 | h2
      · exact h2
      · obtain rfl : k = 40 := by omega
        have : 1 * 2 ^ 40 ≤ l.length * 2 ^ 40 := Nat.mul_le_mul_right _ (by omega)
        omega)
    generalize l.length * 2 ^ k = X at *
    have hXw : IntKind.i64.wrap (X : Int) = (X : Int) := by rw [IntKind.wrap_i64]; omega
    by_cases h0 : l.length = 0
    · have g0 : decide ((l.length : Int) > 0) = false := decide_eq_false (by omega)
      have g0N : ¬ 0 < l.length := by omega
      go_wp2_with fail
      refine (HSZ.out s _ (by exact hs9)).mono ?_
      rintro e w' ⟨rfl, m1, rfl⟩
      obtain ⟨N1, hN1, HO1⟩ := HOV.out s (wr.drewN m1) hs9
      have HO1' := hid HO1
      clear HO1
      go_wp2_with fail
      refine (HO1'.out).mono ?_
      rintro e w' ⟨rfl, m2, rfl⟩
      obtain ⟨N2, hN2, HO2⟩ := HOV.out s (wr.drewN (m1 + m2)) hs9
      have HO2' := hid HO2
      have hN2I : (N2 : Int) ≤ (M3 : Int) / 2 + 1024 := by omega
      clear HO2 hN2
      go_wp2_with fail
      refine (HO2'.out).mono ?_
      rintro e w' ⟨rfl, m3, rfl⟩
      go_wp2_with fail
      go_ret
      exact ⟨by first | rfl | simp, below_drewN hBh _⟩
    · have g0 : decide ((l.length : Int) > 0) = true := decide_eq_true (by omega)
      have g0N : 0 < l.length := by omega
      rcases Nat.lt_or_ge X B with hlt | hge
      · have g1 : decide ((X : Int) < (B : Int)) = true := decide_eq_true (by omega)
        have g1N : (X : Int) < (B : Int) := by omega
        have hk40 := HK4.out h0 hlt
        go_wp2_with fail
        go_roundw
        case rel => exact ⟨k + 1, by omega, by go_num, by first | rfl | trivial⟩
        case measure => simp [intOf]; omega
      · have g1 : decide ((X : Int) < (B : Int)) = false := decide_eq_false (by omega)
        have g1N : ¬ ((X : Int) < (B : Int)) := by omega
        have hbd := HBK.out g0N hge
        obtain ⟨a1, ha1⟩ : ∃ a1, a1 = 2 * l.length := ⟨_, rfl⟩
        have hknI : (k : Int) * (l.length : Int) = ((k * l.length : Nat) : Int) := by norm_cast
        have hknb : k * l.length ≤ 40 * 100 := Nat.mul_le_mul hk hn
        generalize k * l.length = kn at *
        obtain ⟨a2, ha2⟩ : ∃ a2, a2 = a1 + kn := ⟨_, rfl⟩
        obtain ⟨a3, ha3⟩ : ∃ a3, a3 = a2 + 2 := ⟨_, rfl⟩
        have u1 : IntKind.i64.wrap (2 * (l.length : Int)) = (a1 : Int) := by rw [IntKind.wrap_i64]; omega
        have u2 : IntKind.i64.wrap (kn : Int) = (kn : Int) := by rw [IntKind.wrap_i64]; omega
        have u3 : IntKind.i64.wrap ((a1 : Int) + (kn : Int)) = (a2 : Int) := by rw [IntKind.wrap_i64]; omega
        have u4 : IntKind.i64.wrap ((a2 : Int) + 2) = (a3 : Int) := by rw [IntKind.wrap_i64]; omega
        have d1 : decide ((Z : Int) > (a3 : Int)) = false := decide_eq_false (by omega)
        have d1N : ¬ a3 < Z := by omega
        clear ha1 ha2 ha3 hbd
        go_wp2_with fail
        refine (HSZ.out s _ (by exact hs9)).mono ?_
        rintro e w' ⟨rfl, m0, rfl⟩
        go_wp2_with fail
        refine (HSZ.out s _ (by exact hs9)).mono ?_
        rintro e w' ⟨rfl, m1, rfl⟩
        obtain ⟨N1, hN1, HO1⟩ := HOV.out s (wr.drewN (m0 + m1)) hs9
        have HO1' := hid HO1
        clear HO1
        go_wp2_with fail
        refine (HO1'.out).mono ?_
        rintro e w' ⟨rfl, m2, rfl⟩
        obtain ⟨N2, hN2, HO2⟩ := HOV.out s (wr.drewN (m0 + m1 + m2)) hs9
        have HO2' := hid HO2
        have hN2I : (N2 : Int) ≤ (M3 : Int) / 2 + 1024 := by omega
        clear HO2 hN2
        go_wp2_with fail
        refine (HO2'.out).mono ?_
        rintro e w' ⟨rfl, m3, rfl⟩
        go_wp2_with fail
        go_ret
        exact ⟨by first | rfl | simp, below_drewN hBh _⟩

theorem lawFanoBytes_any (A : Option Addr) (c : Nat) (zs : List Int) (B : Int) (w : World) (hl : Lst w A (ints zs)) (hB : B ≤ 9223372036854775807) (hT : Tab w) :
    Calls Tryd.prog 9 #[.slice A zs.length c, .int .i64 B] w fun e w' => e = .returned (.bool true) ∧ Below w.heap.size w w' := by
  cases hf : fewB zs.length B with
  | false => exact lawFanoBytes_many A _ c B w hB hf hT
  | true =>
    by_cases hr : RightZ zs B
    · obtain ⟨l, b, rfl, rfl, hN, hlt⟩ := rightZ_nat hr
      rw [List.length_map] at hf ⊢
      rw [ints_nat] at hl
      exact lawFanoBytes_true A c l b w hl hT hN hf
    · exact lawFanoBytes_wrong A c zs B w hl (by have := fewB_le hf; omega) hB hf hr hT
end Go.Proofs.YtlpnbkfcbamnbaaDoor
