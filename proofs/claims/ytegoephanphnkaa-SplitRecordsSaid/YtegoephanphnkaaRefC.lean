/- Walks: reference 12: an escape. -/
import Derived.Test.YtegoephanphnkaaRefB
set_option linter.unusedVariables false
set_option linter.unusedSimpArgs false
set_option maxRecDepth 100000
namespace Go.Proofs.Ytegoephanphnkaa
open Go.RowKit Go.Shelf L

def signs : ByteArray := { data := #[34, 92, 47, 98, 102, 110, 114, 116] }
theorem signs_size : signs.size = 8 := rfl
theorem signs_esc : ∀ j, j < 8 → escb (at_ (nb signs) j) = true ∧ at_ (nb signs) j ≠ 117 := by
  have : ∀ j : Fin 8, escb (at_ (nb signs) j.1) = true ∧ at_ (nb signs) j.1 ≠ 117 := by decide
  exact fun j hj => this ⟨j, hj⟩
theorem signs_not {c : Nat} (h : ∀ i, i < 8 → at_ (nb signs) i ≠ c) (h2 : c ≠ 117) : escb c = false := by
  have h0 : (34 : Nat) ≠ c := h 0 (by omega)
  have h1 : (92 : Nat) ≠ c := h 1 (by omega)
  have h3 : (47 : Nat) ≠ c := h 2 (by omega)
  have h4 : (98 : Nat) ≠ c := h 3 (by omega)
  have h5 : (102 : Nat) ≠ c := h 4 (by omega)
  have h6 : (110 : Nat) ≠ c := h 5 (by omega)
  have h7 : (114 : Nat) ≠ c := h 6 (by omega)
  have h8 : (116 : Nat) ≠ c := h 7 (by omega)
  unfold escb
  simp only [Bool.or_eq_false_iff, beq_eq_false_iff_ne, ne_eq]
  omega

set_option maxHeartbeats 4000000 in
theorem rescape_any (s : ByteArray) (k : Nat) (w : World) (hk : k ≤ s.size) (hs : s.size ≤ 65536) :
    Calls Try.prog 51 #[.string s, .int .i64 (k : Nat)] w fun e w' => ∃ (k' : Nat) (ok : Bool), e = .returned (RR k' ok 0) ∧ Below w.heap.size w w' ∧ k' ≤ s.size ∧ Esc (nb s) k ok k' := by
  have hll := nb_length s
  have hkl : k ≤ (nb s).length := by rw [hll]; exact hk
  have hB0 := (Below.refl w.heap.size w).alloc (Nat.le_refl _) (.cells #[.int .i64 0, .bool false, .int .i64 0] 56)
  have hb0 : BlkIs (w.alloc (.cells #[.int .i64 0, .bool false, .int .i64 0] 56)) w.heap.size 56 (RC 0 false 0) := BlkIs.new w _ _
  have hsz : w.heap.size ≤ (w.alloc (.cells #[.int .i64 0, .bool false, .int .i64 0] 56)).heap.size := hB0.size
  have x1 := wrap_one k (by omega)
  go_enter Try.func51, Try.ntmps51
  go_wp2_with fail
  generalize hW0 : w.alloc (.cells #[.int .i64 0, .bool false, .int .i64 0] 56) = W0 at *
  clear hW0
  go_loopw [6] (fun i wr => ∃ j m : Nat, i = .int .i64 (j : Nat) ∧ j ≤ 8 ∧ wr = W0.drewN m ∧ (∀ i, i < j → at_ (nb signs) i ≠ at_ (nb s) k)) (fun i _ => 8 - (intOf i).toNat)
  case atStart => exact ⟨0, 0, rfl, by omega, rfl, fun i h => by omega⟩
  case round =>
    obtain ⟨j, m, rfl, hj, rfl, hno⟩ := hrel
    have HN := hid hno
    clear hno
    have hb1 : BlkIs (W0.drewN m) w.heap.size 56 (RC 0 false 0) := hb0
    rcases Nat.lt_or_ge k s.size with h | h
    · have HA := hid (at_nb s k h)
      have hki : (k : Int) < (s.size : Int) := by omega
      have hki2 : decide ((k : Int) < (s.size : Int)) = true := decide_eq_true hki
      have hlt := UInt8.toNat_lt s[k]
      rcases Nat.lt_or_ge j 8 with hlt8 | hge8
      · have hji : (j : Int) < 8 := by omega
        have hji2 : decide ((j : Int) < 8) = true := decide_eq_true hji
        have hjW := wrap_one j (by omega)
        have hjs : j < signs.size := hlt8
        have HJ := hid (at_nb signs j hjs)
        have HSE := hid (signs_esc j hlt8)
        unfold signs at HJ HSE HN hjs
        by_cases hc : (s[k]).toNat = (ByteArray.mk #[34, 92, 47, 98, 102, 110, 114, 116])[j].toNat
        · have hcI : ((s[k]).toNat : Int) = ((ByteArray.mk #[34, 92, 47, 98, 102, 110, 114, 116])[j].toNat : Int) := by rw [hc]
          have HC := hid hc
          clear hc
          obtain ⟨c0, c1, c2, f0, f1, f2⟩ := blk_cells hb1
          obtain ⟨d0, d1, d2, g0, g1, g2⟩ := blk_cells hb0
          have HE := hid (show at_ (nb s) k = at_ (nb (ByteArray.mk #[34, 92, 47, 98, 102, 110, 114, 116])) j from by rw [HA.out, HC.out, HJ.out])
          go_wp2_with fail
          go_quiet (fail)
          go_wp2_with fail
          refine ret_cell rfl rfl rfl (blk_put (w := W0.drewN _) hb0 _ _ _) ?_
          exact ⟨k + 1, true, rfl, below_put (hB0.trans (below_drewN (Below.refl _ _) _)) (Nat.le_refl _) _ _ _, h, esc_one (by rw [HE.out]; exact HSE.out.1) (by rw [HE.out]; exact HSE.out.2)⟩
        · have hcN : (((s[k]).toNat : Int) == ((ByteArray.mk #[34, 92, 47, 98, 102, 110, 114, 116])[j].toNat : Int)) = false := by rw [beq_eq_false_iff_ne]; omega
          have HC := hid hc
          clear hc
          go_wp2_with fail
          go_quiet (fail)
          go_wp2_with fail
          go_roundw
          case rel => exact ⟨j + 1, _, rfl, by omega, rfl, fun i h1 => by
            rcases Nat.lt_or_ge i j with h3 | h3
            · exact HN.out i h3
            · obtain rfl : i = j := by omega
              intro e
              have e2 := HJ.out
              unfold signs at e
              rw [e, HA.out] at e2
              exact HC.out e2⟩
          case measure => simp [intOf]; omega
      · have HN8 := hid (show ∀ i, i < 8 → at_ (nb signs) i ≠ at_ (nb s) k from fun i hi => HN.out i (by omega))
        have hji : decide ((j : Int) < 8) = false := decide_eq_false (by omega)
        have hjN : ¬ (j < 8) := by omega
        have hjN2 : ¬ ((j : Int) < 8) := by omega
        by_cases hu : (s[k]).toNat = 117
        · have huI : ((s[k]).toNat : Int) = 117 := by omega
          have hge : decide ((k : Int) ≥ (s.size : Int)) = false := decide_eq_false (by omega)
          have hgeN : ¬ (s.size ≤ k) := by omega
          have HU := hid hu
          clear hu
          go_wp2_with fail
          clear huI hge hgeN hji hjN hjN2
          go_loopw [7] (fun i wr => ∃ j : Nat, i = .int .i64 (j : Nat) ∧ 1 ≤ j ∧ j ≤ 5 ∧ wr = W0.drewN m ∧ k + j ≤ s.size ∧ ∀ q kk, R (nb s) (toS q 7 kk 0) k (hst q kk (j - 1)) (k + j)) (fun i _ => 5 - (intOf i).toNat)
          case atStart => exact ⟨1, rfl, by omega, by omega, rfl, h, fun q kk => esc_u (by rw [HA.out]; exact HU.out) q kk⟩
          case round =>
            obtain ⟨j, rfl, hj1, hj, rfl, hk', hr⟩ := hrel
            have HR := hid hr
            clear hr
            rcases Nat.lt_or_ge j 5 with hlt5' | hge4
            · have hji : (j : Int) ≤ 4 := by omega
              have hlt4 : j - 1 < 4 := by omega
              have hjW := wrap_one j (by omega)
              obtain ⟨p, hp⟩ : ∃ p, p = k + j := ⟨_, rfl⟩
              have hpI : (k : Int) + (j : Int) = (p : Int) := by omega
              have hpW : IntKind.i64.wrap (p : Int) = (p : Int) := by rw [IntKind.wrap_i64]; omega
              have HP := hid hp
              have hps : p ≤ s.size := by omega
              clear hp
              rcases Nat.lt_or_ge p s.size with h5 | h5
              · have HA5 := hid (at_nb s p h5)
                have hps2 : (p : Int) < (s.size : Int) := by omega
                have hg5 : decide ((p : Int) ≥ (s.size : Int)) = false := decide_eq_false (by omega)
                have hg5N : ¬ (s.size ≤ p) := by omega
                have hlt5 := UInt8.toNat_lt s[p]
                have RX := hid (fun W => rhex_any (s[p]).toNat W hlt5)
                cases hh : hexd (s[p]).toNat
                · rw [hh] at RX
                  have HH := hid hh
                  clear hh
                  go_wp2_with (go_at_call 57; refine (RX.out _).mono ?_; rintro e w' ⟨rfl, rfl⟩)
                  refine (rbad_any p _).mono ?_
                  rintro e w2 ⟨rfl, hB2⟩
                  unfold RR RC
                  have hb2 : BlkIs w2 w.heap.size 56 (RC 0 false 0) := BlkIs.below (w := W0.drewN _) hb0 hB2
                  obtain ⟨c0, c1, c2, f0, f1, f2⟩ := blk_cells hb2
                  go_wp2_with fail
                  refine ret_cell rfl rfl rfl (blk_put hb2 _ _ _) ?_
                  exact ⟨p, false, rfl, below_put (hB0.trans ((below_drewN (Below.refl _ _) _).trans (hB2.mono hsz))) (Nat.le_refl _) _ _ _, hps, fun q kk => Goes.fail _ (by rw [HP.out]; exact HR.out q kk) (esc_nohex hlt4 (by rw [HA5.out]; exact HH.out) (by rw [hll]; exact hps))⟩
                · rw [hh] at RX
                  have HH := hid hh
                  clear hh
                  go_wp2_with (go_at_call 57; refine (RX.out _).mono ?_; rintro e w' ⟨rfl, rfl⟩)
                  go_roundw
                  case rel => exact ⟨j + 1, by go_num, by omega, by omega, by first | rfl | trivial, by have := HP.out; omega, fun q kk => by
                    have h7 := esc_hex (HR.out q kk) hlt4 (by rw [← HP.out, HA5.out]; exact HH.out) (by rw [hll, ← HP.out]; exact h5)
                    rw [show j - 1 + 1 = j + 1 - 1 from by omega] at h7
                    exact h7⟩
                  case measure => simp [intOf]; omega
              · have hg5 : decide ((p : Int) ≥ (s.size : Int)) = true := decide_eq_true (by omega)
                have HA5 := hid (at_out (l := nb s) (i := p) (by rw [hll]; exact h5))
                go_wp2_with (go_at_call 42; refine (rbad_any p _).mono ?_; rintro e w2 ⟨rfl, hB2⟩; unfold RR RC; have hb2 : BlkIs w2 w.heap.size 56 (RC 0 false 0) := BlkIs.below (w := W0.drewN _) hb0 hB2; obtain ⟨c0, c1, c2, f0, f1, f2⟩ := blk_cells hb2)
                refine ret_cell rfl rfl rfl (blk_put hb2 _ _ _) ?_
                exact ⟨p, false, rfl, below_put (hB0.trans ((below_drewN (Below.refl _ _) _).trans (hB2.mono hsz))) (Nat.le_refl _) _ _ _, hps, fun q kk => Goes.fail _ (by rw [HP.out]; exact HR.out q kk) (esc_nohex hlt4 (by rw [HA5.out]; decide) (by rw [hll]; exact hps))⟩
            · obtain rfl : j = 5 := by omega
              have hk5 : IntKind.i64.wrap ((k : Int) + 5) = (k : Int) + 5 := by rw [IntKind.wrap_i64]; omega
              obtain ⟨c0, c1, c2, f0, f1, f2⟩ := blk_cells hb1
              obtain ⟨d0, d1, d2, g0, g1, g2⟩ := blk_cells hb0
              have HK5 := hid (show ((k : Int) + 5) = ((k + 5 : Nat) : Int) by omega)
              go_wp2_with fail
              refine ret_cell (x := k + 5) (ok := true) (d := 0) rfl rfl rfl (by rw [HK5.out]; exact blk_put (w := W0.drewN _) hb0 _ _ _) ?_
              exact ⟨k + 5, true, rfl, below_put (hB0.trans (below_drewN (Below.refl _ _) _)) (Nat.le_refl _) _ _ _, hk', fun q kk => Goes.done (HR.out q kk)⟩
        · have huI : (((s[k]).toNat : Int) != 117) = true := by rw [bne_iff_ne]; omega
          have hge : decide ((k : Int) ≥ (s.size : Int)) = false := decide_eq_false (by omega)
          have hgeN : ¬ (s.size ≤ k) := by omega
          have HU := hid (signs_not (c := at_ (nb s) k) HN8.out (by rw [HA.out]; exact hu))
          clear hu
          go_wp2_with fail
          refine (rbad_any k _).mono ?_
          rintro e w2 ⟨rfl, hB2⟩
          unfold RR RC
          have hb2 : BlkIs w2 w.heap.size 56 (RC 0 false 0) := BlkIs.below (w := W0.drewN _) hb0 hB2
          obtain ⟨c0, c1, c2, f0, f1, f2⟩ := blk_cells hb2
          go_wp2_with fail
          refine ret_cell rfl rfl rfl (blk_put hb2 _ _ _) ?_
          exact ⟨k, false, rfl, below_put (hB0.trans ((below_drewN (Below.refl _ _) _).trans (hB2.mono hsz))) (Nat.le_refl _) _ _ _, hk, esc_dead hkl HU.out⟩
    · have hki : decide ((k : Int) < (s.size : Int)) = false := decide_eq_false (by omega)
      have hkiN : ¬ (k < s.size) := by omega
      have hge : decide ((k : Int) ≥ (s.size : Int)) = true := decide_eq_true (by omega)
      have HA := hid (at_out (l := nb s) (i := k) (by rw [hll]; exact h))
      by_cases hj8 : j < 8
      · have hji : decide ((j : Int) < 8) = true := decide_eq_true (by omega)
        go_wp2_with (go_at_call 42; refine (rbad_any k _).mono ?_; rintro e w2 ⟨rfl, hB2⟩; unfold RR RC; have hb2 : BlkIs w2 w.heap.size 56 (RC 0 false 0) := BlkIs.below (w := W0.drewN _) hb0 hB2; obtain ⟨c0, c1, c2, f0, f1, f2⟩ := blk_cells hb2)
        refine ret_cell rfl rfl rfl (blk_put hb2 _ _ _) ?_
        exact ⟨k, false, rfl, below_put (hB0.trans ((below_drewN (Below.refl _ _) _).trans (hB2.mono hsz))) (Nat.le_refl _) _ _ _, hk, esc_dead hkl (by rw [HA.out]; decide)⟩
      · have hji : decide ((j : Int) < 8) = false := decide_eq_false (by omega)
        have hjN : ¬ ((j : Int) < 8) := by omega
        go_wp2_with (go_at_call 42; refine (rbad_any k _).mono ?_; rintro e w2 ⟨rfl, hB2⟩; unfold RR RC; have hb2 : BlkIs w2 w.heap.size 56 (RC 0 false 0) := BlkIs.below (w := W0.drewN _) hb0 hB2; obtain ⟨c0, c1, c2, f0, f1, f2⟩ := blk_cells hb2)
        refine ret_cell rfl rfl rfl (blk_put hb2 _ _ _) ?_
        exact ⟨k, false, rfl, below_put (hB0.trans ((below_drewN (Below.refl _ _) _).trans (hB2.mono hsz))) (Nat.le_refl _) _ _ _, hk, esc_dead hkl (by rw [HA.out]; decide)⟩

end Go.Proofs.Ytegoephanphnkaa
