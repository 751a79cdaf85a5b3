/- Walks: the laws MinmaxBetween, MinmaxPairs and MinmaxBack return true. -/
import Derived.Test.YtlpnbkfcbamnbaaLawMinB
set_option linter.unusedVariables false
set_option linter.unusedSimpArgs false
set_option maxRecDepth 100000
namespace Go.Proofs.Ytlpnbkfcbamnbaa
open Go.RowKit L

set_option maxHeartbeats 4000000 in
theorem lawMinBack_any (A : Option Addr) (c : Nat) (l : List (Bool × Nat)) (p : Nat) (w : World) (hl : Lst w A (pcCells l)) (hx : ∀ o ∈ l, o.2 < 65536) (hn : l.length ≤ maxLen) (hp : p < 65536) :
    Calls Try.prog 4 #[.slice A l.length c, .int .u16 (p : Nat)] w fun e w' => e = .returned (.bool true) ∧ Below w.heap.size w w' := by
  have hbl := pieceBits_length l
  have HBT := hid (fun W hW => pbits_any A c l W hW hx hn)
  generalize pieceBits l = bs at *
  have hpw : IntKind.i64.wrap (p : Int) = (p : Int) := by rw [IntKind.wrap_i64]; omega
  go_enter Try.func4, Try.ntmps4
  go_wp2_with fail
  refine (awake7 _).mono ?_
  rintro e w1 ⟨rfl, hB1⟩
  have hz1 := hB1.size
  go_wp2_with fail
  refine (HBT.out _ (hl.below hB1)).mono ?_
  rintro e w2 ⟨A3, c3, rfl, hl3, hB2⟩
  have hBb := hB1.trans (hB2.mono hz1)
  have hzb := hBb.size
  go_wp2_with fail
  refine (made_any A3 c3 bs _ hl3 (by omega)).mono ?_
  rintro e w3 ⟨gx, Ax, cx', rfl, hr3, _, _, hB3⟩
  have hl33 := hl3.below hB3
  have hBc := hBb.trans (hB3.mono hzb)
  have hzc := hBc.size
  go_wp2_with fail
  refine (mmNew_any gx Ax cx' bs w3 hr3).mono ?_
  rintro e w4 ⟨gl, h, rfl, ht, hB4⟩
  have hl4 := hl33.below hB4
  have hBd := hBc.trans (hB4.mono hzc)
  clear hB1 hB2 hB3 hB4 hBb hBc hl3 hl33 hr3 HBT hl hzb hz1
  obtain ⟨g, hg⟩ : ∃ g, g = w3.heap.size := ⟨_, rfl⟩
  rw [← hg] at ht ⊢
  clear hg hzc
  rcases Nat.lt_or_ge p bs.length with hlt | hge
  · have d1 : ¬ ((bs.length : Int) ≤ (p : Int)) := by omega
    have hpl : (p : Int) < (bs.length : Int) := by omega
    have hp0 : (0 : Int) ≤ (p : Int) := by omega
    have q0 := bools_get bs (i := p) hlt
    have hl4' := hl4
    obtain ⟨ab, ao, rfl, had, hcl⟩ := hl4.lit (by rw [bools_length]; omega)
    have kp := hcl _ _ q0
    have HKM := hid (show ∀ m, m < bs.length → w4.cell? ⟨ab, ao + m, none⟩ = some (.bool (bitAt bs m)) from fun m hm => hcl _ _ (bools_get bs (i := m) hm))
    clear hcl q0
    cases hb : bitAt bs p with
    | false =>
      rw [hb] at kp
      clear hb
      go_wp2_with fail
      go_ret
      exact ⟨rfl, hBd⟩
    | true =>
      rw [hb] at kp
      have HB := hid hb
      clear hb
      have hhp : held bs.length (p : Nat) = p := by unfold held; omega
      have HFO := hid (mmForth_any g gl gx Ax cx' bs h (p : Nat) 0 w4 ht (by omega) (by omega))
      rw [hhp] at HFO
      have HEX := hid (fun (i : Nat) (hi : i ≤ bs.length) W (t : TreeAt W g gl gx Ax cx' bs h) => show Calls Try.prog 13 #[.pointer (some ⟨g, 0, none⟩), .int .i64 (i : Nat)] W fun e w' => e = .returned (.int .i64 (eb (bitAt bs) 0 i)) ∧ ∃ m, w' = W.drewN m from by
        have := mmExcess_any g gl gx Ax cx' bs h (i : Nat) W t
        rwa [show held bs.length (i : Nat) = i by unfold held; omega] at this)
      rcases forth_cases (bitAt bs) p bs.length 0 with ⟨hr, hno⟩ | ⟨m, hm1, hm2, hr, he, hq⟩
      · rw [hr] at HFO
        have hab := eb_above (bitAt bs) p HB.out bs.length hlt hno
        have hadd := eb_add (bitAt bs) 0 p bs.length (by omega) (by omega)
        have HX1 := hid (fun W t => HEX.out bs.length (Nat.le_refl _) W t)
        have HX2 := hid (fun W t => HEX.out p (by omega) W t)
        have hgt : eb (bitAt bs) 0 p < eb (bitAt bs) 0 bs.length := by omega
        clear hr hno hadd hab
        generalize eb (bitAt bs) 0 bs.length = e1 at *
        generalize eb (bitAt bs) 0 p = e2 at *
        have dneg : ((-1 : Int) < 0) := by omega
        go_wp2_with fail
        refine (HFO.out).mono ?_
        rintro e w' ⟨rfl, m1, rfl⟩
        go_wp2_with fail
        refine (HX1.out _ (by exact ht)).mono ?_
        rintro e w' ⟨rfl, m2, rfl⟩
        go_wp2_with fail
        refine (HX2.out _ (by exact ht)).mono ?_
        rintro e w' ⟨rfl, m3, rfl⟩
        go_wp2_with fail
        go_ret
        exact ⟨by first | rfl | simp [hgt], below_drewN hBd _⟩
      · rw [hr] at HFO
        obtain ⟨c1, c2, c3', c4⟩ := close_props (bitAt bs) p m HB.out hm1 he hq
        have hadd := eb_add (bitAt bs) 0 p m (by omega) (by omega)
        obtain ⟨k, hk⟩ : ∃ k, k = m - 1 := ⟨_, rfl⟩
        have hkm : (m : Int) - 1 = (k : Int) := by omega
        rw [hkm] at HFO
        have km := HKM.out k (by omega)
        rw [show bitAt bs k = false by rw [hk]; exact c1] at km
        have HX1 := hid (fun W t => HEX.out m hm2 W t)
        have HX2 := hid (fun W t => HEX.out p (by omega) W t)
        have hbm : held bs.length (m : Nat) = m := by unfold held; omega
        have HBK := hid (fun W (t : TreeAt W g gl gx Ax cx' bs h) => show Calls Try.prog 14 #[.pointer (some ⟨g, 0, none⟩), .int .i64 (m : Nat), .int .i64 0] W fun e w' => e = .returned (.int .i64 (p : Nat)) ∧ ∃ n, w' = W.drewN n from by
          have := mmBack_any g gl gx Ax cx' bs h (m : Nat) 0 W t (by omega) (by omega)
          rwa [hbm, c4] at this)
        have heq : eb (bitAt bs) 0 m = eb (bitAt bs) 0 p := by omega
        rw [heq] at HX1
        have hkw : IntKind.i64.wrap ((k : Int) + 1) = (m : Int) := by rw [IntKind.wrap_i64]; omega
        have dk : ¬ ((k : Int) < 0) := by omega
        have dk0 : (0 : Int) ≤ (k : Int) := by omega
        have dkl : (k : Int) < (bs.length : Int) := by omega
        clear hr he hq c1 c2 c3' c4 hadd heq hk hkm hbm
        generalize eb (bitAt bs) 0 p = e2 at *
        have hee : (e2 == e2) = true := by simp
        have hpp : ((p : Int) == (p : Int)) = true := by simp
        go_wp2_with fail
        refine (HFO.out).mono ?_
        rintro e w' ⟨rfl, m1, rfl⟩
        go_wp2_with fail
        refine (HBK.out _ (by exact ht)).mono ?_
        rintro e w' ⟨rfl, m2, rfl⟩
        go_wp2_with fail
        refine (HX1.out _ (by exact ht)).mono ?_
        rintro e w' ⟨rfl, m3, rfl⟩
        go_wp2_with fail
        refine (HX2.out _ (by exact ht)).mono ?_
        rintro e w' ⟨rfl, m4, rfl⟩
        go_wp2_with fail
        go_ret
        exact ⟨by first | rfl | simp, below_drewN hBd _⟩
  · have d1 : (bs.length : Int) ≤ (p : Int) := by omega
    go_wp2_with fail
    go_ret
    exact ⟨rfl, hBd⟩

set_option maxHeartbeats 4000000 in
theorem lawMinBetween_any (A : Option Addr) (c : Nat) (l : List (Bool × Nat)) (z d : Int) (w : World) (hl : Lst w A (pcCells l)) (hx : ∀ o ∈ l, o.2 < 65536) (hn : l.length ≤ maxLen) (hd : -9223372036854775808 ≤ d ∧ d ≤ 9223372036854775807) :
    Calls Try.prog 3 #[.slice A l.length c, .agg #[.int .i64 z, .int .i64 d]] w fun e w' => e = .returned (.bool true) ∧ Below w.heap.size w w' := by
  have hbl := pieceBits_length l
  have HBT := hid (fun W hW => pbits_any A c l W hW hx hn)
  generalize pieceBits l = bs at *
  have hB0 := (Below.refl w.heap.size w).alloc (Nat.le_refl _) (.cells #[.int .i64 z, .int .i64 d] 24)
  have hN0 := BlkIs.new w 24 #[.int .i64 z, .int .i64 d]
  have hz0 := hB0.size
  go_enter Try.func3, Try.ntmps3
  go_wp2_with fail
  refine (awake7 _).mono ?_
  rintro e w1 ⟨rfl, hB1⟩
  have hBa := hB0.trans (hB1.mono hz0)
  have hza := hBa.size
  have hN1 := hN0.below hB1
  go_wp2_with fail
  refine (HBT.out _ (hl.below hBa)).mono ?_
  rintro e w2 ⟨A3, c3, rfl, hl3, hB2⟩
  have hBb := hBa.trans (hB2.mono hza)
  have hzb := hBb.size
  have hN2 := hN1.below hB2
  go_wp2_with fail
  refine (made_any A3 c3 bs _ hl3 (by omega)).mono ?_
  rintro e w3 ⟨gx, Ax, cx', rfl, hr3, _, _, hB3⟩
  have hl33 := hl3.below hB3
  have hBc := hBb.trans (hB3.mono hzb)
  have hzc := hBc.size
  have hN3 := hN2.below hB3
  go_wp2_with fail
  refine (mmNew_any gx Ax cx' bs w3 hr3).mono ?_
  rintro e w4 ⟨gl, h, rfl, ht, hB4⟩
  have hl4 := hl33.below hB4
  have hBd := hBc.trans (hB4.mono hzc)
  have hN4 := hN3.below hB4
  clear hB0 hB1 hB2 hB3 hB4 hBa hBb hBc hl3 hl33 hr3 HBT hl hzb hza hN0 hN1 hN2 hN3 hz0
  obtain ⟨g, hg⟩ : ∃ g, g = w3.heap.size := ⟨_, rfl⟩
  rw [← hg] at ht ⊢
  clear hg hzc
  have hp := held_le bs.length z
  have hpc := held_clamp bs.length z
  obtain ⟨p, hpe⟩ : ∃ p, p = held bs.length z := ⟨_, rfl⟩
  rw [← hpe] at hp hpc
  have hcp : min (max z 0) (bs.length : Int) = (p : Int) := hpc.symm
  clear hpe hpc
  have c0 := hN4.cell 0
  have c1 : w4.cell? ⟨w.heap.size, 1, none⟩ = some (.int .i64 d) := hN4.cell 1
  have HFO := hid (show Calls Try.prog 12 #[.pointer (some ⟨g, 0, none⟩), .int .i64 (p : Nat), .int .i64 d] w4 fun e w' => e = .returned (.int .i64 (forthN (bitAt bs) p bs.length d)) ∧ ∃ m, w' = w4.drewN m from by
    have := mmForth_any g gl gx Ax cx' bs h (p : Nat) d w4 ht hd.1 hd.2
    rwa [show held bs.length (p : Nat) = p by unfold held; omega] at this)
  have HIS := hid (fun m h1 h2 h3 h4 => forth_is (bitAt bs) p bs.length m d h1 h2 h3 h4)
  have HCA := hid (forth_cases (bitAt bs) p bs.length d)
  generalize forthN (bitAt bs) p bs.length d = k at *
  go_wp2_with fail
  refine (HFO.out).mono ?_
  rintro e w' ⟨rfl, m1, rfl⟩
  go_wp2_with fail
  go_loopw [9, 10] (fun ev iv wr => ∃ i : Nat, p ≤ i ∧ i ≤ bs.length ∧ iv = .int .i64 (i : Nat) ∧ ev = .int .i64 (eb (bitAt bs) p i) ∧ wr = w4.drewN m1 ∧ Hid (∀ q, p < q → q ≤ i → eb (bitAt bs) p q ≠ d)) (fun _ iv _ => bs.length - (intOf iv).toNat)
  case atStart => exact ⟨p, Nat.le_refl _, hp, rfl, by rw [eb_self], rfl, hid (fun q h1 h2 => by omega)⟩
  case round =>
    obtain ⟨i, hpi, hil, rfl, rfl, rfl, HQ⟩ := hrel
    have hiw := wrapi_one i (by omega)
    rcases Nat.lt_or_ge i bs.length with hlt | hge
    · have hii : (i : Int) < (bs.length : Int) := by omega
      have hi0 : (0 : Int) ≤ (i : Int) := by omega
      obtain ⟨ab, ao, rfl, had, hcl⟩ := hl4.lit (by rw [bools_length]; omega)
      have ki := hcl _ _ (bools_get bs (i := i) hlt)
      have hs := eb_succ (bitAt bs) p i hpi
      have hab := eb_abs (bitAt bs) p i
      have hT := hid (show eb (bitAt bs) p (i + 1) = d → k = (i : Int) from fun he => by
        have := HIS.out (i + 1) (by omega) (by omega) he (fun q q1 q2 => HQ.out q q1 (by omega))
        omega)
      have hF := hid (show eb (bitAt bs) p (i + 1) ≠ d → k ≠ (i : Int) from fun he hk => by
        rcases HCA.out with ⟨h1, _⟩ | ⟨m, h1, h2, h3, h4, _⟩
        · omega
        · obtain rfl : m = i + 1 := by omega
          exact he h4)
      have HQ2 := hid (show eb (bitAt bs) p (i + 1) ≠ d → ∀ q, p < q → q ≤ i + 1 → eb (bitAt bs) p q ≠ d from fun he q q1 q2 => by
        rcases Nat.eq_or_lt_of_le q2 with h | h
        · rw [h]; exact he
        · exact HQ.out q q1 (by omega))
      clear hcl HIS HCA HFO
      obtain ⟨e0, he0⟩ : ∃ e0, eb (bitAt bs) p i = e0 := ⟨_, rfl⟩
      obtain ⟨e1, he1⟩ : ∃ e1, eb (bitAt bs) p (i + 1) = e1 := ⟨_, rfl⟩
      rw [he0, he1] at hs
      rw [he0] at hab ⊢
      rw [he1] at hT hF HQ2
      have HE1 := hid he1
      clear he0 he1
      have hw1 : IntKind.i64.wrap (e0 + 1) = e0 + 1 := by rw [IntKind.wrap_i64]; omega
      have hw2 : IntKind.i64.wrap (e0 - 1) = e0 - 1 := by rw [IntKind.wrap_i64]; omega
      cases hb : bitAt bs i with
      | true =>
        rw [hb] at ki hs
        have hse : e1 = e0 + 1 := hs
        clear hs hb
        by_cases he : e0 + 1 = d
        · have hk := hT.out (by omega)
          have g1 : ((e0 + 1 : Int) == d) = true := by rw [beq_iff_eq]; exact he
          have g2 : ((i : Int) == k) = true := by rw [beq_iff_eq]; exact hk.symm
          clear hse he hk
          go_wp2_with fail
          go_ret
          exact ⟨by first | rfl | simp, below_drewN hBd _⟩
        · have hk := hF.out (by omega)
          have g1 : ((e0 + 1 : Int) == d) = false := by rw [beq_eq_false_iff_ne]; exact he
          have g2 : ((i : Int) == k) = false := by rw [beq_eq_false_iff_ne]; exact fun h => hk h.symm
          have HQ3 := hid (HQ2.out (by omega))
          have HSE := hid hse
          clear hse he hk
          go_wp2_with fail
          go_roundw
          case rel => exact ⟨i + 1, by omega, by omega, by go_num, by rw [HE1.out, HSE.out], by first | rfl | trivial, HQ3⟩
          case measure => simp [intOf]; omega
      | false =>
        rw [hb] at ki hs
        have hse : e1 = e0 - 1 := hs
        clear hs hb
        by_cases he : e0 - 1 = d
        · have hk := hT.out (by omega)
          have g1 : ((e0 - 1 : Int) == d) = true := by rw [beq_iff_eq]; exact he
          have g2 : ((i : Int) == k) = true := by rw [beq_iff_eq]; exact hk.symm
          clear hse he hk
          go_wp2_with fail
          go_ret
          exact ⟨by first | rfl | simp, below_drewN hBd _⟩
        · have hk := hF.out (by omega)
          have g1 : ((e0 - 1 : Int) == d) = false := by rw [beq_eq_false_iff_ne]; exact he
          have g2 : ((i : Int) == k) = false := by rw [beq_eq_false_iff_ne]; exact fun h => hk h.symm
          have HQ3 := hid (HQ2.out (by omega))
          have HSE := hid hse
          clear hse he hk
          go_wp2_with fail
          go_roundw
          case rel => exact ⟨i + 1, by omega, by omega, by go_num, by rw [HE1.out, HSE.out], by first | rfl | trivial, HQ3⟩
          case measure => simp [intOf]; omega
    · obtain rfl : i = bs.length := by omega
      have hki : ¬ ((bs.length : Int) < (bs.length : Int)) := by omega
      have hk : k = -1 := by
        rcases HCA.out with ⟨h1, _⟩ | ⟨m, h1, h2, h3, h4, _⟩
        · exact h1
        · exact absurd h4 (HQ.out m h1 h2)
      subst hk
      go_wp2_with fail
      go_ret
      exact ⟨by first | rfl | simp, below_drewN hBd _⟩
end Go.Proofs.Ytlpnbkfcbamnbaa
