/- Walks: reference 12: a number, the walk. -/
import Derived.Test.YtegoephanphnkaaRefD
set_option linter.unusedVariables false
set_option linter.unusedSimpArgs false
set_option maxRecDepth 100000
namespace Go.Proofs.Ytegoephanphnkaa
open Go.RowKit Go.Shelf L

set_option maxHeartbeats 4000000 in
theorem rnumber_any (s : ByteArray) (k : Nat) (w : World) (hk : k < s.size) (hs : s.size ≤ 65536) (hnumb : numb (at_ (nb s) k)) :
    Calls Try.prog 46 #[.string s, .int .i64 (k : Nat)] w fun e w' => ∃ (k' : Nat) (ok : Bool), e = .returned (RR k' ok 0) ∧ Below w.heap.size w w' ∧ k' ≤ s.size ∧ Num (nb s) k ok k' := by
  have hll := nb_length s
  have hB0 := (Below.refl w.heap.size w).alloc (Nat.le_refl _) (.cells #[.int .i64 0, .bool false, .int .i64 0] 56)
  have hb0 : BlkIs (w.alloc (.cells #[.int .i64 0, .bool false, .int .i64 0] 56)) w.heap.size 56 (RC 0 false 0) := BlkIs.new w _ _
  obtain ⟨W0, hW0⟩ : ∃ W0, W0 = w.alloc (.cells #[.int .i64 0, .bool false, .int .i64 0] 56) := ⟨_, rfl⟩
  rw [← hW0] at hB0 hb0
  have hsz : w.heap.size ≤ W0.heap.size := hB0.size
  obtain ⟨c0, c1, c2, f0, f1, f2⟩ := blk_cells hb0
  obtain ⟨r, hr⟩ : ∃ r, r = w.heap.size := ⟨_, rfl⟩
  go_enter Try.func46, Try.ntmps46
  refine wp_seq_cut (JA s r W0 (fun p => p = k)) ?_ ?_
  · go_wp2_with fail
    rw [← hW0, ← hr]
    exact ⟨rfl, k, rfl, FA.mk ..⟩
  rw [← hr] at hb0 c0 c1 c2 f0 f1 f2
  have hrle : w.heap.size ≤ r := by omega
  clear hr hW0
  rintro a1 w1 ⟨rfl, p, rfl, f, rfl⟩
  unfold FA
  refine wp_seq_cut (JA s r w1 (N1 (nb s) p)) ?_ ?_
  · have HA := hid (at_nb s p hk)
    have hi : (p : Int) < (s.size : Int) := by omega
    have hi2 : decide ((p : Int) < (s.size : Int)) = true := decide_eq_true hi
    obtain ⟨p2, hp2⟩ : ∃ p2, p2 = p + 1 := ⟨_, rfl⟩
    have hpI2 : (p : Int) + 1 = (p2 : Int) := by omega
    have hpW2 : IntKind.i64.wrap (p2 : Int) = (p2 : Int) := by rw [IntKind.wrap_i64]; omega
    by_cases h45 : (s[p]).toNat = 45
    · have hN := hid (show N1 (nb s) p p2 from by rw [hp2]; exact N1.minus (by rw [hll]; omega) (by rw [HA.out]; exact h45))
      have hI : ((s[p]).toNat : Int) = 45 := by omega
      clear h45 hp2
      go_wp2_with fail
      exact ⟨rfl, p2, hN.out, FA.mk ..⟩
    · have hN := hid (show N1 (nb s) p p from N1.plain (by rw [hll]; omega) (by rw [HA.out]; exact h45) hnumb)
      have hI : (((s[p]).toNat : Int) == 45) = false := by rw [beq_eq_false_iff_ne]; omega
      clear h45 hp2
      go_wp2_with fail
      exact ⟨rfl, p, hN.out, FA.mk ..⟩
  clear hk hnumb
  rintro a2 w2 ⟨rfl, q, hN, f, rfl⟩
  unfold FA
  have hql : q ≤ s.size := by obtain ⟨M, _, _, h⟩ := hN; rw [hll] at h; exact h
  have HN := hid hN
  clear hN
  refine wp_seq_cut (JB s r w2 (N2 (nb s) p)) ?_ ?_
  · go_wp2_with fail
    refine (rdigits_any s q _ hql hs).mono ?_
    rintro e w' ⟨n, rfl, rfl, hdg⟩
    go_wp2_with fail
    exact ⟨rfl, q, n, ⟨HN.out, hdg⟩, FB.mk ..⟩
  clear HN hql
  rintro a3 w3 ⟨rfl, q, n, hN, f, rfl⟩
  unfold FB
  have hql : q + n ≤ s.size := by have := hN.2.2.1; rw [hll] at this; exact this
  refine wp_seq_cut (JB s r w3 (N3 (nb s) p)) ?_ ?_
  · rcases Nat.eq_zero_or_pos n with h0 | h0
    · have hN0 := hid (show Num (nb s) p false q from N2.none (by rw [h0] at hN; exact hN))
      have hz : ((n : Int) == 0) = true := by rw [beq_iff_eq]; omega
      clear hN h0
      go_wp2_with fail
      refine (rbad_any q _).mono ?_
      rintro e w4 ⟨rfl, hB2⟩
      unfold RR RC
      have hb2 : BlkIs w4 r 56 (RC 0 false 0) := hb0.below hB2
      obtain ⟨c0, c1, c2, f0, f1, f2⟩ := blk_cells hb2
      go_wp2_with fail
      refine ret_cell rfl rfl rfl (blk_put hb2 _ _ _) ?_
      exact ⟨q, false, rfl, below_put (hB0.trans (hB2.mono hsz)) hrle _ _ _, by omega, hN0.out⟩
    · have hN0 := hid (show N3 (nb s) p q n from ⟨hN.1, hN.2, h0⟩)
      have hz : ((n : Int) == 0) = false := by rw [beq_eq_false_iff_ne]; omega
      clear hN
      go_wp2_with fail
      exact ⟨rfl, q, n, hN0.out, FB.mk ..⟩
  clear hN hql
  rintro a4 w4 ⟨rfl, q, n, hN, f, rfl⟩
  unfold FB
  have hqn := hN.2.1.2.1
  rw [hll] at hqn
  have hq : q < s.size := by have := hN.2.2; omega
  have HN := hid hN
  clear hN
  refine wp_seq_cut (JB s r w4 (N4 (nb s) p)) ?_ ?_
  · have HA := hid (at_nb s q hq)
    have hi : (q : Int) < (s.size : Int) := by omega
    by_cases h48 : (s[q]).toNat = 48
    · have hN0 := hid (HN.out.zero (by rw [HA.out]; exact h48))
      have hI : ((s[q]).toNat : Int) = 48 := by omega
      clear h48
      go_wp2_with fail
      exact ⟨rfl, q, 1, hN0.out, FB.mk ..⟩
    · have hN0 := hid (HN.out.int (by rw [HA.out]; exact h48))
      have hI : (((s[q]).toNat : Int) == 48) = false := by rw [beq_eq_false_iff_ne]; omega
      clear h48
      go_wp2_with fail
      exact ⟨rfl, q, n, hN0.out, FB.mk ..⟩
  clear HN hqn hq
  rintro a5 w5 ⟨rfl, q, n, hN, f, rfl⟩
  unfold FB
  have hqn : q + n ≤ s.size := by obtain ⟨M, _, _, h⟩ := hN; rw [hll] at h; exact h
  have HN := hid hN
  clear hN
  refine wp_seq_cut (JA s r w5 (N5 (nb s) p)) ?_ ?_
  · obtain ⟨p2, hp2⟩ : ∃ p2, p2 = q + n := ⟨_, rfl⟩
    have hpI2 : (q : Int) + (n : Int) = (p2 : Int) := by omega
    have hpW2 : IntKind.i64.wrap (p2 : Int) = (p2 : Int) := by rw [IntKind.wrap_i64]; omega
    have hN0 := hid (show N5 (nb s) p p2 from by rw [hp2]; exact HN.out)
    clear hp2
    go_wp2_with fail
    exact ⟨rfl, p2, hN0.out, FA.mk ..⟩
  clear HN hqn
  rintro a6 w6 ⟨rfl, q, hN, f, rfl⟩
  unfold FA
  have hq : q ≤ s.size := by obtain ⟨M, _, _, h⟩ := hN; rw [hll] at h; exact h
  have HN := hid hN
  clear hN
  refine wp_seq_cut (JA s r w6 (N6 (nb s) p)) ?_ ?_
  · rcases Nat.lt_or_ge q s.size with h | h
    · have HA := hid (at_nb s q h)
      have hi : (q : Int) < (s.size : Int) := by omega
      have hi2 : decide ((q : Int) < (s.size : Int)) = true := decide_eq_true hi
      by_cases h46 : (s[q]).toNat = 46
      · have hI : ((s[q]).toNat : Int) = 46 := by omega
        obtain ⟨p2, hp2⟩ : ∃ p2, p2 = q + 1 := ⟨_, rfl⟩
        have hpI2 : (q : Int) + 1 = (p2 : Int) := by omega
        have hpW2 : IntKind.i64.wrap (p2 : Int) = (p2 : Int) := by rw [IntKind.wrap_i64]; omega
        have hR := hid (show Rk (nb s) p 13 p2 from by rw [hp2]; exact HN.out.dot (by rw [HA.out]; exact h46))
        have hl2 : p2 ≤ s.size := by omega
        have HP2 := hid hp2
        clear h46 hp2
        go_wp2_with fail
        refine (rdigits_any s p2 _ hl2 hs).mono ?_
        rintro e w' ⟨n, rfl, rfl, hdg⟩
        rcases Nat.eq_zero_or_pos n with h0 | h0
        · have hN0 := hid (show Num (nb s) p false p2 from dot_none hR.out (by rw [h0] at hdg; exact hdg))
          have hz : ((n : Int) == 0) = true := by rw [beq_iff_eq]; omega
          clear hdg h0
          go_wp2_with fail
          refine (rbad_any p2 _).mono ?_
          rintro e w7 ⟨rfl, hB2⟩
          unfold RR RC
          have hb2 : BlkIs w7 r 56 (RC 0 false 0) := hb0.below hB2
          obtain ⟨c0, c1, c2, f0, f1, f2⟩ := blk_cells hb2
          go_wp2_with fail
          refine ret_cell rfl rfl rfl (blk_put hb2 _ _ _) ?_
          exact ⟨p2, false, rfl, below_put (hB0.trans (hB2.mono hsz)) hrle _ _ _, hl2, hN0.out⟩
        · have hz : ((n : Int) == 0) = false := by rw [beq_eq_false_iff_ne]; omega
          have hpl := hdg.2.1
          rw [hll] at hpl
          obtain ⟨p3, hp3⟩ : ∃ p3, p3 = p2 + n := ⟨_, rfl⟩
          have hnW : IntKind.i64.wrap ((n : Int) + 1) = (n : Int) + 1 := by rw [IntKind.wrap_i64]; omega
          have hpI3 : (q : Int) + ((n : Int) + 1) = (p3 : Int) := by omega
          have hpW3 : IntKind.i64.wrap (p3 : Int) = (p3 : Int) := by rw [IntKind.wrap_i64]; omega
          have hN0 := hid (show N6 (nb s) p p3 from by rw [hp3]; exact dot_some hR.out hdg h0)
          clear hdg hp3 hpl
          go_wp2_with fail
          exact ⟨rfl, p3, hN0.out, FA.mk ..⟩
      · have hI : (((s[q]).toNat : Int) == 46) = false := by rw [beq_eq_false_iff_ne]; omega
        have hN0 := hid (HN.out.none (by rw [HA.out]; exact h46))
        clear h46
        go_wp2_with fail
        exact ⟨rfl, q, hN0.out, FA.mk ..⟩
    · have hi2 : decide ((q : Int) < (s.size : Int)) = false := decide_eq_false (by omega)
      have hiN : ¬ (q < s.size) := by omega
      have hN0 := hid (HN.out.none (by rw [at_out (by rw [hll]; exact h)]; decide))
      go_wp2_with fail
      exact ⟨rfl, q, hN0.out, FA.mk ..⟩
  clear HN hq
  rintro a7 w7 ⟨rfl, q, hN, f, rfl⟩
  unfold FA
  have hq : q ≤ s.size := by obtain ⟨M, _, _, h⟩ := hN; rw [hll] at h; exact h
  have HN := hid hN
  clear hN
  refine wp_seq_cut (JA s r w7 (Rk (nb s) p 5)) ?_ ?_
  · rcases Nat.lt_or_ge q s.size with h | h
    · have HA := hid (at_nb s q h)
      have hi : (q : Int) < (s.size : Int) := by omega
      have hi2 : decide ((q : Int) < (s.size : Int)) = true := decide_eq_true hi
      by_cases he : (s[q]).toNat = 101 ∨ (s[q]).toNat = 69
      · obtain ⟨p2, hp2⟩ : ∃ p2, p2 = q + 1 := ⟨_, rfl⟩
        have hpI2 : (q : Int) + 1 = (p2 : Int) := by omega
        have hpW2 : IntKind.i64.wrap (p2 : Int) = (p2 : Int) := by rw [IntKind.wrap_i64]; omega
        have hR := hid (show Rk (nb s) p 15 p2 from by rw [hp2]; exact HN.out.exp (by rw [HA.out]; exact he))
        have hl2 : p2 ≤ s.size := by omega
        clear hp2
        -- the sign
        have hsg : (∃ p3, N8 (nb s) p p3 ∧ p3 ≤ s.size ∧ ((p3 = p2 + 1 ∧ ∃ h2 : p2 < s.size, ((s[p2]).toNat = 43 ∨ (s[p2]).toNat = 45)) ∨ (p3 = p2 ∧ ((∃ h2 : p2 < s.size, (s[p2]).toNat ≠ 43 ∧ (s[p2]).toNat ≠ 45) ∨ s.size ≤ p2)))) := by
          rcases Nat.lt_or_ge p2 s.size with h2 | h2
          · by_cases hsn : (s[p2]).toNat = 43 ∨ (s[p2]).toNat = 45
            · exact ⟨p2 + 1, exp_sign hR.out (by rw [at_nb s p2 h2]; exact hsn), h2, Or.inl ⟨rfl, h2, hsn⟩⟩
            · exact ⟨p2, exp_plain hR.out (by rw [at_nb s p2 h2]; omega) (by rw [at_nb s p2 h2]; omega), hl2, Or.inr ⟨rfl, Or.inl ⟨h2, by omega, by omega⟩⟩⟩
          · exact ⟨p2, exp_plain hR.out (by rw [at_out (by rw [hll]; exact h2)]; decide) (by rw [at_out (by rw [hll]; exact h2)]; decide), hl2, Or.inr ⟨rfl, Or.inr h2⟩⟩
        obtain ⟨p3, h8, hl3, hcs⟩ := hsg
        have H8 := hid h8
        have HF : ∀ n, Dg (nb s) p3 (p3 + n) → 0 < n → Rk (nb s) p 5 (p3 + n) := fun n hd hn => H8.out.some_ hd hn
        have HF0 : Dg (nb s) p3 (p3 + 0) → Num (nb s) p false p3 := fun hd => H8.out.none hd
        have HFH := hid (And.intro HF HF0)
        have hpW3 : IntKind.i64.wrap (p3 : Int) = (p3 : Int) := by rw [IntKind.wrap_i64]; omega
        clear h8 HF HF0
        rcases hcs with ⟨e3, h2, hsn⟩ | ⟨e3, ⟨h2, hsn1, hsn2⟩ | hout⟩
        · have hpI3 : (p2 : Int) + 1 = (p3 : Int) := by omega
          have hi3 : (p2 : Int) < (s.size : Int) := by omega
          have hi4 : decide ((p2 : Int) < (s.size : Int)) = true := decide_eq_true hi3
          clear e3
          rcases he with he | he
          · have heI : ((s[q]).toNat : Int) = 101 := by omega
            clear he
            rcases hsn with hsn | hsn
            · have hsI : ((s[p2]).toNat : Int) = 43 := by omega
              clear hsn
              go_wp2_with fail
              refine (rdigits_any s p3 _ hl3 hs).mono ?_
              rintro e w' ⟨n, rfl, rfl, hdg⟩
              rcases Nat.eq_zero_or_pos n with h0 | h0
              · have hN0 := hid (show Num (nb s) p false p3 from HFH.out.2 (by rw [h0] at hdg; exact hdg))
                have hz : ((n : Int) == 0) = true := by rw [beq_iff_eq]; omega
                clear hdg h0
                go_wp2_with fail
                refine (rbad_any p3 _).mono ?_
                rintro e w8 ⟨rfl, hB2⟩
                unfold RR RC
                have hb2 : BlkIs w8 r 56 (RC 0 false 0) := hb0.below hB2
                obtain ⟨c0, c1, c2, f0, f1, f2⟩ := blk_cells hb2
                go_wp2_with fail
                refine ret_cell rfl rfl rfl (blk_put hb2 _ _ _) ?_
                exact ⟨p3, false, rfl, below_put (hB0.trans (hB2.mono hsz)) hrle _ _ _, hl3, hN0.out⟩
              · have hz : ((n : Int) == 0) = false := by rw [beq_eq_false_iff_ne]; omega
                have hpl := hdg.2.1
                rw [hll] at hpl
                obtain ⟨p4, hp4⟩ : ∃ p4, p4 = p3 + n := ⟨_, rfl⟩
                have hpI4 : (p3 : Int) + (n : Int) = (p4 : Int) := by omega
                have hpW4 : IntKind.i64.wrap (p4 : Int) = (p4 : Int) := by rw [IntKind.wrap_i64]; omega
                have hN0 := hid (show Rk (nb s) p 5 p4 from by rw [hp4]; exact HFH.out.1 n hdg h0)
                clear hdg hp4 hpl
                go_wp2_with fail
                exact ⟨rfl, p4, hN0.out, FA.mk ..⟩
            · have hsI : ((s[p2]).toNat : Int) = 45 := by omega
              clear hsn
              go_wp2_with fail
              refine (rdigits_any s p3 _ hl3 hs).mono ?_
              rintro e w' ⟨n, rfl, rfl, hdg⟩
              rcases Nat.eq_zero_or_pos n with h0 | h0
              · have hN0 := hid (show Num (nb s) p false p3 from HFH.out.2 (by rw [h0] at hdg; exact hdg))
                have hz : ((n : Int) == 0) = true := by rw [beq_iff_eq]; omega
                clear hdg h0
                go_wp2_with fail
                refine (rbad_any p3 _).mono ?_
                rintro e w8 ⟨rfl, hB2⟩
                unfold RR RC
                have hb2 : BlkIs w8 r 56 (RC 0 false 0) := hb0.below hB2
                obtain ⟨c0, c1, c2, f0, f1, f2⟩ := blk_cells hb2
                go_wp2_with fail
                refine ret_cell rfl rfl rfl (blk_put hb2 _ _ _) ?_
                exact ⟨p3, false, rfl, below_put (hB0.trans (hB2.mono hsz)) hrle _ _ _, hl3, hN0.out⟩
              · have hz : ((n : Int) == 0) = false := by rw [beq_eq_false_iff_ne]; omega
                have hpl := hdg.2.1
                rw [hll] at hpl
                obtain ⟨p4, hp4⟩ : ∃ p4, p4 = p3 + n := ⟨_, rfl⟩
                have hpI4 : (p3 : Int) + (n : Int) = (p4 : Int) := by omega
                have hpW4 : IntKind.i64.wrap (p4 : Int) = (p4 : Int) := by rw [IntKind.wrap_i64]; omega
                have hN0 := hid (show Rk (nb s) p 5 p4 from by rw [hp4]; exact HFH.out.1 n hdg h0)
                clear hdg hp4 hpl
                go_wp2_with fail
                exact ⟨rfl, p4, hN0.out, FA.mk ..⟩
          · have heI : ((s[q]).toNat : Int) = 69 := by omega
            clear he
            rcases hsn with hsn | hsn
            · have hsI : ((s[p2]).toNat : Int) = 43 := by omega
              clear hsn
              go_wp2_with fail
              refine (rdigits_any s p3 _ hl3 hs).mono ?_
              rintro e w' ⟨n, rfl, rfl, hdg⟩
              rcases Nat.eq_zero_or_pos n with h0 | h0
              · have hN0 := hid (show Num (nb s) p false p3 from HFH.out.2 (by rw [h0] at hdg; exact hdg))
                have hz : ((n : Int) == 0) = true := by rw [beq_iff_eq]; omega
                clear hdg h0
                go_wp2_with fail
                refine (rbad_any p3 _).mono ?_
                rintro e w8 ⟨rfl, hB2⟩
                unfold RR RC
                have hb2 : BlkIs w8 r 56 (RC 0 false 0) := hb0.below hB2
                obtain ⟨c0, c1, c2, f0, f1, f2⟩ := blk_cells hb2
                go_wp2_with fail
                refine ret_cell rfl rfl rfl (blk_put hb2 _ _ _) ?_
                exact ⟨p3, false, rfl, below_put (hB0.trans (hB2.mono hsz)) hrle _ _ _, hl3, hN0.out⟩
              · have hz : ((n : Int) == 0) = false := by rw [beq_eq_false_iff_ne]; omega
                have hpl := hdg.2.1
                rw [hll] at hpl
                obtain ⟨p4, hp4⟩ : ∃ p4, p4 = p3 + n := ⟨_, rfl⟩
                have hpI4 : (p3 : Int) + (n : Int) = (p4 : Int) := by omega
                have hpW4 : IntKind.i64.wrap (p4 : Int) = (p4 : Int) := by rw [IntKind.wrap_i64]; omega
                have hN0 := hid (show Rk (nb s) p 5 p4 from by rw [hp4]; exact HFH.out.1 n hdg h0)
                clear hdg hp4 hpl
                go_wp2_with fail
                exact ⟨rfl, p4, hN0.out, FA.mk ..⟩
            · have hsI : ((s[p2]).toNat : Int) = 45 := by omega
              clear hsn
              go_wp2_with fail
              refine (rdigits_any s p3 _ hl3 hs).mono ?_
              rintro e w' ⟨n, rfl, rfl, hdg⟩
              rcases Nat.eq_zero_or_pos n with h0 | h0
              · have hN0 := hid (show Num (nb s) p false p3 from HFH.out.2 (by rw [h0] at hdg; exact hdg))
                have hz : ((n : Int) == 0) = true := by rw [beq_iff_eq]; omega
                clear hdg h0
                go_wp2_with fail
                refine (rbad_any p3 _).mono ?_
                rintro e w8 ⟨rfl, hB2⟩
                unfold RR RC
                have hb2 : BlkIs w8 r 56 (RC 0 false 0) := hb0.below hB2
                obtain ⟨c0, c1, c2, f0, f1, f2⟩ := blk_cells hb2
                go_wp2_with fail
                refine ret_cell rfl rfl rfl (blk_put hb2 _ _ _) ?_
                exact ⟨p3, false, rfl, below_put (hB0.trans (hB2.mono hsz)) hrle _ _ _, hl3, hN0.out⟩
              · have hz : ((n : Int) == 0) = false := by rw [beq_eq_false_iff_ne]; omega
                have hpl := hdg.2.1
                rw [hll] at hpl
                obtain ⟨p4, hp4⟩ : ∃ p4, p4 = p3 + n := ⟨_, rfl⟩
                have hpI4 : (p3 : Int) + (n : Int) = (p4 : Int) := by omega
                have hpW4 : IntKind.i64.wrap (p4 : Int) = (p4 : Int) := by rw [IntKind.wrap_i64]; omega
                have hN0 := hid (show Rk (nb s) p 5 p4 from by rw [hp4]; exact HFH.out.1 n hdg h0)
                clear hdg hp4 hpl
                go_wp2_with fail
                exact ⟨rfl, p4, hN0.out, FA.mk ..⟩
        · subst e3
          have hi3 : (p3 : Int) < (s.size : Int) := by omega
          have hi4 : decide ((p3 : Int) < (s.size : Int)) = true := decide_eq_true hi3
          have hs43 : (((s[p3]).toNat : Int) == 43) = false := by rw [beq_eq_false_iff_ne]; omega
          have hs45 : (((s[p3]).toNat : Int) == 45) = false := by rw [beq_eq_false_iff_ne]; omega
          clear hsn1 hsn2
          rcases he with he | he
          · have heI : ((s[q]).toNat : Int) = 101 := by omega
            clear he
            go_wp2_with fail
            refine (rdigits_any s p3 _ hl3 hs).mono ?_
            rintro e w' ⟨n, rfl, rfl, hdg⟩
            rcases Nat.eq_zero_or_pos n with h0 | h0
            · have hN0 := hid (show Num (nb s) p false p3 from HFH.out.2 (by rw [h0] at hdg; exact hdg))
              have hz : ((n : Int) == 0) = true := by rw [beq_iff_eq]; omega
              clear hdg h0
              go_wp2_with fail
              refine (rbad_any p3 _).mono ?_
              rintro e w8 ⟨rfl, hB2⟩
              unfold RR RC
              have hb2 : BlkIs w8 r 56 (RC 0 false 0) := hb0.below hB2
              obtain ⟨c0, c1, c2, f0, f1, f2⟩ := blk_cells hb2
              go_wp2_with fail
              refine ret_cell rfl rfl rfl (blk_put hb2 _ _ _) ?_
              exact ⟨p3, false, rfl, below_put (hB0.trans (hB2.mono hsz)) hrle _ _ _, hl3, hN0.out⟩
            · have hz : ((n : Int) == 0) = false := by rw [beq_eq_false_iff_ne]; omega
              have hpl := hdg.2.1
              rw [hll] at hpl
              obtain ⟨p4, hp4⟩ : ∃ p4, p4 = p3 + n := ⟨_, rfl⟩
              have hpI4 : (p3 : Int) + (n : Int) = (p4 : Int) := by omega
              have hpW4 : IntKind.i64.wrap (p4 : Int) = (p4 : Int) := by rw [IntKind.wrap_i64]; omega
              have hN0 := hid (show Rk (nb s) p 5 p4 from by rw [hp4]; exact HFH.out.1 n hdg h0)
              clear hdg hp4 hpl
              go_wp2_with fail
              exact ⟨rfl, p4, hN0.out, FA.mk ..⟩
          · have heI : ((s[q]).toNat : Int) = 69 := by omega
            clear he
            go_wp2_with fail
            refine (rdigits_any s p3 _ hl3 hs).mono ?_
            rintro e w' ⟨n, rfl, rfl, hdg⟩
            rcases Nat.eq_zero_or_pos n with h0 | h0
            · have hN0 := hid (show Num (nb s) p false p3 from HFH.out.2 (by rw [h0] at hdg; exact hdg))
              have hz : ((n : Int) == 0) = true := by rw [beq_iff_eq]; omega
              clear hdg h0
              go_wp2_with fail
              refine (rbad_any p3 _).mono ?_
              rintro e w8 ⟨rfl, hB2⟩
              unfold RR RC
              have hb2 : BlkIs w8 r 56 (RC 0 false 0) := hb0.below hB2
              obtain ⟨c0, c1, c2, f0, f1, f2⟩ := blk_cells hb2
              go_wp2_with fail
              refine ret_cell rfl rfl rfl (blk_put hb2 _ _ _) ?_
              exact ⟨p3, false, rfl, below_put (hB0.trans (hB2.mono hsz)) hrle _ _ _, hl3, hN0.out⟩
            · have hz : ((n : Int) == 0) = false := by rw [beq_eq_false_iff_ne]; omega
              have hpl := hdg.2.1
              rw [hll] at hpl
              obtain ⟨p4, hp4⟩ : ∃ p4, p4 = p3 + n := ⟨_, rfl⟩
              have hpI4 : (p3 : Int) + (n : Int) = (p4 : Int) := by omega
              have hpW4 : IntKind.i64.wrap (p4 : Int) = (p4 : Int) := by rw [IntKind.wrap_i64]; omega
              have hN0 := hid (show Rk (nb s) p 5 p4 from by rw [hp4]; exact HFH.out.1 n hdg h0)
              clear hdg hp4 hpl
              go_wp2_with fail
              exact ⟨rfl, p4, hN0.out, FA.mk ..⟩
        · subst e3
          have hi4 : decide ((p3 : Int) < (s.size : Int)) = false := decide_eq_false (by omega)
          have hiN4 : ¬ (p3 < s.size) := by omega
          rcases he with he | he
          · have heI : ((s[q]).toNat : Int) = 101 := by omega
            clear he
            go_wp2_with fail
            refine (rdigits_any s p3 _ hl3 hs).mono ?_
            rintro e w' ⟨n, rfl, rfl, hdg⟩
            rcases Nat.eq_zero_or_pos n with h0 | h0
            · have hN0 := hid (show Num (nb s) p false p3 from HFH.out.2 (by rw [h0] at hdg; exact hdg))
              have hz : ((n : Int) == 0) = true := by rw [beq_iff_eq]; omega
              clear hdg h0
              go_wp2_with fail
              refine (rbad_any p3 _).mono ?_
              rintro e w8 ⟨rfl, hB2⟩
              unfold RR RC
              have hb2 : BlkIs w8 r 56 (RC 0 false 0) := hb0.below hB2
              obtain ⟨c0, c1, c2, f0, f1, f2⟩ := blk_cells hb2
              go_wp2_with fail
              refine ret_cell rfl rfl rfl (blk_put hb2 _ _ _) ?_
              exact ⟨p3, false, rfl, below_put (hB0.trans (hB2.mono hsz)) hrle _ _ _, hl3, hN0.out⟩
            · have hz : ((n : Int) == 0) = false := by rw [beq_eq_false_iff_ne]; omega
              have hpl := hdg.2.1
              rw [hll] at hpl
              obtain ⟨p4, hp4⟩ : ∃ p4, p4 = p3 + n := ⟨_, rfl⟩
              have hpI4 : (p3 : Int) + (n : Int) = (p4 : Int) := by omega
              have hpW4 : IntKind.i64.wrap (p4 : Int) = (p4 : Int) := by rw [IntKind.wrap_i64]; omega
              have hN0 := hid (show Rk (nb s) p 5 p4 from by rw [hp4]; exact HFH.out.1 n hdg h0)
              clear hdg hp4 hpl
              go_wp2_with fail
              exact ⟨rfl, p4, hN0.out, FA.mk ..⟩
          · have heI : ((s[q]).toNat : Int) = 69 := by omega
            clear he
            go_wp2_with fail
            refine (rdigits_any s p3 _ hl3 hs).mono ?_
            rintro e w' ⟨n, rfl, rfl, hdg⟩
            rcases Nat.eq_zero_or_pos n with h0 | h0
            · have hN0 := hid (show Num (nb s) p false p3 from HFH.out.2 (by rw [h0] at hdg; exact hdg))
              have hz : ((n : Int) == 0) = true := by rw [beq_iff_eq]; omega
              clear hdg h0
              go_wp2_with fail
              refine (rbad_any p3 _).mono ?_
              rintro e w8 ⟨rfl, hB2⟩
              unfold RR RC
              have hb2 : BlkIs w8 r 56 (RC 0 false 0) := hb0.below hB2
              obtain ⟨c0, c1, c2, f0, f1, f2⟩ := blk_cells hb2
              go_wp2_with fail
              refine ret_cell rfl rfl rfl (blk_put hb2 _ _ _) ?_
              exact ⟨p3, false, rfl, below_put (hB0.trans (hB2.mono hsz)) hrle _ _ _, hl3, hN0.out⟩
            · have hz : ((n : Int) == 0) = false := by rw [beq_eq_false_iff_ne]; omega
              have hpl := hdg.2.1
              rw [hll] at hpl
              obtain ⟨p4, hp4⟩ : ∃ p4, p4 = p3 + n := ⟨_, rfl⟩
              have hpI4 : (p3 : Int) + (n : Int) = (p4 : Int) := by omega
              have hpW4 : IntKind.i64.wrap (p4 : Int) = (p4 : Int) := by rw [IntKind.wrap_i64]; omega
              have hN0 := hid (show Rk (nb s) p 5 p4 from by rw [hp4]; exact HFH.out.1 n hdg h0)
              clear hdg hp4 hpl
              go_wp2_with fail
              exact ⟨rfl, p4, hN0.out, FA.mk ..⟩
      · have hI : (((s[q]).toNat : Int) == 101) = false := by rw [beq_eq_false_iff_ne]; omega
        have hI2 : (((s[q]).toNat : Int) == 69) = false := by rw [beq_eq_false_iff_ne]; omega
        have hN0 := hid (HN.out.end_ (by rw [HA.out]; omega) (by rw [HA.out]; omega))
        clear he
        go_wp2_with fail
        exact ⟨rfl, q, hN0.out, FA.mk ..⟩
    · have hi2 : decide ((q : Int) < (s.size : Int)) = false := decide_eq_false (by omega)
      have hiN : ¬ (q < s.size) := by omega
      have hN0 := hid (HN.out.end_ (by rw [at_out (by rw [hll]; exact h)]; decide) (by rw [at_out (by rw [hll]; exact h)]; decide))
      go_wp2_with fail
      exact ⟨rfl, q, hN0.out, FA.mk ..⟩
  clear HN hq
  rintro a8 w8 ⟨rfl, q, hN, f, rfl⟩
  unfold FA
  go_wp2_with fail
  refine ret_cell rfl rfl rfl (blk_put hb0 _ _ _) ?_
  exact ⟨q, true, rfl, below_put hB0 hrle _ _ _, by have := hN.2; rw [hll] at this; exact this, fun x => Goes.done (hN.1 x)⟩

end Go.Proofs.Ytegoephanphnkaa
