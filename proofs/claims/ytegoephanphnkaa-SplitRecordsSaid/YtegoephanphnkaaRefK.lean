/- Walks: reference 12: a value, of what stands behind it (printed by gen/refvalue.py). -/
import Derived.Test.YtegoephanphnkaaRefJ
import Derived.Test.YtegoephanphnkaaRefE
import Derived.Test.YtegoephanphnkaaLawRef
set_option linter.unusedVariables false
set_option linter.unusedSimpArgs false
set_option maxRecDepth 100000
namespace Go.Proofs.Ytegoephanphnkaa
open Go.RowKit Go.Shelf L

/-- What is told of a value, a member, what stands in brackets. -/
def VPost (s : ByteArray) (k : Nat) (P : Bool → Nat → Nat → Prop) (w : World) (e : Ending) (w' : World) : Prop := ∃ (k' : Nat) (ok : Bool) (d : Nat), e = .returned (RR k' ok d) ∧ Below w.heap.size w w' ∧ k' ≤ s.size ∧ k + d ≤ k' ∧ P ok k' d
def VC (s : ByteArray) (k : Nat) : Prop := ∀ w, Calls Try.prog 35 #[.string s, .int .i64 (k : Nat)] w (VPost s k (fun ok k' d => VAL (nb s) k ok k' d) w)
def IC (s : ByteArray) (t : Bool) (k : Nat) : Prop := ∀ w, Calls Try.prog 54 #[.string s, .int .i64 (k : Nat), .int .u8 (endB t : Nat)] w (VPost s k (fun ok k' d => ITEM (nb s) t k ok k' d) w)
def MC (s : ByteArray) (t : Bool) (k : Nat) : Prop := ∀ w, Calls Try.prog 45 #[.string s, .int .i64 (k : Nat), .int .u8 (endB t : Nat)] w (VPost s k (fun ok k' d => MANY (nb s) t k ok k' d ∧ (ok = true → 0 < d)) w)

set_option maxHeartbeats 4000000 in
theorem value_any (s : ByteArray) (k : Nat) (hk : k ≤ s.size) (hs : s.size ≤ 65536) (hM : ∀ t k', k < k' → k' ≤ s.size → MC s t k') : VC s k := by
  intro w
  have hll := nb_length s
  have HL := hid hll
  clear hll
  have hB0 := (Below.refl w.heap.size w).alloc (Nat.le_refl _) (.cells #[.int .i64 0, .bool false, .int .i64 0] 56)
  have hb0 : BlkIs (w.alloc (.cells #[.int .i64 0, .bool false, .int .i64 0] 56)) w.heap.size 56 (RC 0 false 0) := BlkIs.new w _ _
  have HM := hid hM
  clear hM
  go_enter Try.func35, Try.ntmps35
  go_wp2_with fail
  (with_reducible refine (rblanks_any s k _ hk hs).mono ?_)
  rintro e w1 ⟨k1, rfl, rfl, hbk⟩
  generalize hW0 : w.alloc (.cells #[.int .i64 0, .bool false, .int .i64 0] 56) = W0 at *
  clear hW0
  obtain ⟨r, hr⟩ : ∃ r, r = w.heap.size := ⟨_, rfl⟩
  rw [← hr] at hb0
  rw [← hr]
  have HR := hid hr
  clear hr
  have hk1 : k ≤ k1 := hbk.1
  have hk2 : k1 ≤ s.size := by have := hbk.2.1; rw [HL.out] at this; exact this
  have hnbk := hid hbk.nb
  have HB := hid hbk
  clear hbk
  obtain ⟨c0, c1, c2, f0, f1, f2⟩ := blk_cells hb0
  rcases Nat.lt_or_ge k1 s.size with h | h
  · have hki : (k1 : Int) < (s.size : Int) := by omega
    have hge : decide ((k1 : Int) ≥ (s.size : Int)) = false := decide_eq_false (by omega)
    have hgeN : ¬ (s.size ≤ k1) := by omega
    have HA := hid (at_nb s k1 h)
    have hlt := UInt8.toNat_lt s[k1]
    have x1 := wrap_one k1 (by omega)

    by_cases e110 : (s[k1]).toNat = 110
    · have eI : ((s[k1]).toNat : Int) = 110 := by omega
      have HC := hid (show at_ (nb s) k1 = 110 by rw [HA.out]; exact e110)
      clear e110
      go_wp2_with fail
      (with_reducible refine (rword_any { data := #[110, 117, 108, 108] } s k1 _ hk2 hs null_nz (by decide)).mono ?_)
      rintro e w2 ⟨k2, ok2, rfl, hB2, hk3, htk⟩
      unfold RR RC
      have htk := hid htk
      have hb2 : BlkIs w2 r 56 (RC 0 false 0) := BlkIs.below hb0 hB2
      clear c0 c1 c2 f0 f1 f2
      obtain ⟨c0, c1, c2, f0, f1, f2⟩ := blk_cells hb2
      go_wp2_with fail
      have hV : VAL (nb s) k1 ok2 k2 0 := val_num (null_num htk.out (HC.out) (by rw [HL.out]; exact hk3))
      refine ret_cell rfl rfl rfl (blk_put hb2 _ _ _) ?_
      exact ⟨k2, ok2, 0, rfl, below_put (hB0.trans (hB2.mono hB0.size)) (by rw [HR.out]; exact Nat.le_refl _) _ _ _, hk3, by have := val_le hV; omega, val_blk HB.out hV⟩
    · have e110I : (((s[k1]).toNat : Int) == 110) = false := by rw [beq_eq_false_iff_ne]; omega
      by_cases e116 : (s[k1]).toNat = 116
      · have eI : ((s[k1]).toNat : Int) = 116 := by omega
        have HC := hid (show at_ (nb s) k1 = 116 by rw [HA.out]; exact e116)
        clear e116
        go_wp2_with fail
        (with_reducible refine (rword_any { data := #[116, 114, 117, 101] } s k1 _ hk2 hs true_nz (by decide)).mono ?_)
        rintro e w2 ⟨k2, ok2, rfl, hB2, hk3, htk⟩
        unfold RR RC
        have htk := hid htk
        have hb2 : BlkIs w2 r 56 (RC 0 false 0) := BlkIs.below hb0 hB2
        clear c0 c1 c2 f0 f1 f2
        obtain ⟨c0, c1, c2, f0, f1, f2⟩ := blk_cells hb2
        go_wp2_with fail
        have hV : VAL (nb s) k1 ok2 k2 0 := val_num (true_num htk.out (HC.out) (by rw [HL.out]; exact hk3))
        refine ret_cell rfl rfl rfl (blk_put hb2 _ _ _) ?_
        exact ⟨k2, ok2, 0, rfl, below_put (hB0.trans (hB2.mono hB0.size)) (by rw [HR.out]; exact Nat.le_refl _) _ _ _, hk3, by have := val_le hV; omega, val_blk HB.out hV⟩
      · have e116I : (((s[k1]).toNat : Int) == 116) = false := by rw [beq_eq_false_iff_ne]; omega
        by_cases e102 : (s[k1]).toNat = 102
        · have eI : ((s[k1]).toNat : Int) = 102 := by omega
          have HC := hid (show at_ (nb s) k1 = 102 by rw [HA.out]; exact e102)
          clear e102
          go_wp2_with fail
          (with_reducible refine (rword_any { data := #[102, 97, 108, 115, 101] } s k1 _ hk2 hs false_nz (by decide)).mono ?_)
          rintro e w2 ⟨k2, ok2, rfl, hB2, hk3, htk⟩
          unfold RR RC
          have htk := hid htk
          have hb2 : BlkIs w2 r 56 (RC 0 false 0) := BlkIs.below hb0 hB2
          clear c0 c1 c2 f0 f1 f2
          obtain ⟨c0, c1, c2, f0, f1, f2⟩ := blk_cells hb2
          go_wp2_with fail
          have hV : VAL (nb s) k1 ok2 k2 0 := val_num (false_num htk.out (HC.out) (by rw [HL.out]; exact hk3))
          refine ret_cell rfl rfl rfl (blk_put hb2 _ _ _) ?_
          exact ⟨k2, ok2, 0, rfl, below_put (hB0.trans (hB2.mono hB0.size)) (by rw [HR.out]; exact Nat.le_refl _) _ _ _, hk3, by have := val_le hV; omega, val_blk HB.out hV⟩
        · have e102I : (((s[k1]).toNat : Int) == 102) = false := by rw [beq_eq_false_iff_ne]; omega
          by_cases e34 : (s[k1]).toNat = 34
          · have eI : ((s[k1]).toNat : Int) = 34 := by omega
            have HC := hid (show at_ (nb s) k1 = 34 by rw [HA.out]; exact e34)
            clear e34
            go_wp2_with fail
            (with_reducible refine (rstr_any s k1 _ hk2 hs).mono ?_)
            rintro e w2 ⟨k2, ok2, rfl, hB2, hk3, htk⟩
            unfold RR RC
            have htk := hid htk
            have hb2 : BlkIs w2 r 56 (RC 0 false 0) := BlkIs.below hb0 hB2
            clear c0 c1 c2 f0 f1 f2
            obtain ⟨c0, c1, c2, f0, f1, f2⟩ := blk_cells hb2
            go_wp2_with fail
            have hV : VAL (nb s) k1 ok2 k2 0 := val_num (str_num HC.out (by rcases htk.out with ⟨h, _⟩ | ⟨_, h⟩; exact absurd HC.out h; exact h))
            refine ret_cell rfl rfl rfl (blk_put hb2 _ _ _) ?_
            exact ⟨k2, ok2, 0, rfl, below_put (hB0.trans (hB2.mono hB0.size)) (by rw [HR.out]; exact Nat.le_refl _) _ _ _, hk3, by have := val_le hV; omega, val_blk HB.out hV⟩
          · have e34I : (((s[k1]).toNat : Int) == 34) = false := by rw [beq_eq_false_iff_ne]; omega
            by_cases e91 : (s[k1]).toNat = 91
            · have eI : ((s[k1]).toNat : Int) = 91 := by omega
              have HC := hid (show at_ (nb s) k1 = 91 by rw [HA.out]; exact e91)
              obtain ⟨p1, hp1⟩ : ∃ p1, p1 = k1 + 1 := ⟨_, rfl⟩
              have hp1I : (k1 : Int) + 1 = (p1 : Int) := by omega
              have hp1W : IntKind.i64.wrap (p1 : Int) = (p1 : Int) := by rw [IntKind.wrap_i64]; omega
              have HMC := hid (show ∀ W, Calls Try.prog 45 #[.string s, .int .i64 (p1 : Nat), .int .u8 93] W (VPost s p1 (fun ok k' d => MANY (nb s) false p1 ok k' d ∧ (ok = true → 0 < d)) W) from HM.out false p1 (by omega) (by omega))
              have HP1 := hid hp1
              clear e91 hp1 x1
              go_wp2_with fail
              (with_reducible refine (HMC.out _).mono ?_)
              rintro e w2 ⟨k2, ok2, d2, rfl, hB2, hk3, hkd, htk, hd0⟩
              unfold RR RC
              have htk := hid htk
              have hd0 := hid hd0
              have hb2 : BlkIs w2 r 56 (RC 0 false 0) := BlkIs.below hb0 hB2
              clear c0 c1 c2 f0 f1 f2
              obtain ⟨c0, c1, c2, f0, f1, f2⟩ := blk_cells hb2
              go_wp2_with fail
              have hV : VAL (nb s) k1 ok2 k2 d2 := val_many (t := false) HC.out (by rw [← HP1.out]; exact htk.out) hd0.out
              refine ret_cell rfl rfl rfl (blk_put hb2 _ _ _) ?_
              exact ⟨k2, ok2, d2, rfl, below_put (hB0.trans (hB2.mono hB0.size)) (by rw [HR.out]; exact Nat.le_refl _) _ _ _, hk3, by have := HP1.out; omega, val_blk HB.out hV⟩
            · have e91I : (((s[k1]).toNat : Int) == 91) = false := by rw [beq_eq_false_iff_ne]; omega
              by_cases e123 : (s[k1]).toNat = 123
              · have eI : ((s[k1]).toNat : Int) = 123 := by omega
                have HC := hid (show at_ (nb s) k1 = 123 by rw [HA.out]; exact e123)
                obtain ⟨p1, hp1⟩ : ∃ p1, p1 = k1 + 1 := ⟨_, rfl⟩
                have hp1I : (k1 : Int) + 1 = (p1 : Int) := by omega
                have hp1W : IntKind.i64.wrap (p1 : Int) = (p1 : Int) := by rw [IntKind.wrap_i64]; omega
                have HMC := hid (show ∀ W, Calls Try.prog 45 #[.string s, .int .i64 (p1 : Nat), .int .u8 125] W (VPost s p1 (fun ok k' d => MANY (nb s) true p1 ok k' d ∧ (ok = true → 0 < d)) W) from HM.out true p1 (by omega) (by omega))
                have HP1 := hid hp1
                clear e123 hp1 x1
                go_wp2_with fail
                (with_reducible refine (HMC.out _).mono ?_)
                rintro e w2 ⟨k2, ok2, d2, rfl, hB2, hk3, hkd, htk, hd0⟩
                unfold RR RC
                have htk := hid htk
                have hd0 := hid hd0
                have hb2 : BlkIs w2 r 56 (RC 0 false 0) := BlkIs.below hb0 hB2
                clear c0 c1 c2 f0 f1 f2
                obtain ⟨c0, c1, c2, f0, f1, f2⟩ := blk_cells hb2
                go_wp2_with fail
                have hV : VAL (nb s) k1 ok2 k2 d2 := val_many (t := true) HC.out (by rw [← HP1.out]; exact htk.out) hd0.out
                refine ret_cell rfl rfl rfl (blk_put hb2 _ _ _) ?_
                exact ⟨k2, ok2, d2, rfl, below_put (hB0.trans (hB2.mono hB0.size)) (by rw [HR.out]; exact Nat.le_refl _) _ _ _, hk3, by have := HP1.out; omega, val_blk HB.out hV⟩
              · have e123I : (((s[k1]).toNat : Int) == 123) = false := by rw [beq_eq_false_iff_ne]; omega
                have HNU := hid (show numb (at_ (nb s) k1) from ⟨hnbk.out, by rw [HA.out]; exact e91, by rw [HA.out]; exact e123, by rw [HA.out]; exact e34, by rw [HA.out]; exact e110, by rw [HA.out]; exact e116, by rw [HA.out]; exact e102⟩)
                clear e110 e116 e102 e34 e91 e123
                go_wp2_with fail
                (with_reducible refine (rnumber_any s k1 _ h hs HNU.out).mono ?_)
                rintro e w2 ⟨k2, ok2, rfl, hB2, hk3, htk⟩
                unfold RR RC
                have htk := hid htk
                have hb2 : BlkIs w2 r 56 (RC 0 false 0) := BlkIs.below hb0 hB2
                clear c0 c1 c2 f0 f1 f2
                obtain ⟨c0, c1, c2, f0, f1, f2⟩ := blk_cells hb2
                go_wp2_with fail
                have hV : VAL (nb s) k1 ok2 k2 0 := val_num htk.out
                refine ret_cell rfl rfl rfl (blk_put hb2 _ _ _) ?_
                exact ⟨k2, ok2, 0, rfl, below_put (hB0.trans (hB2.mono hB0.size)) (by rw [HR.out]; exact Nat.le_refl _) _ _ _, hk3, by have := val_le hV; omega, val_blk HB.out hV⟩
  · have hge : decide ((k1 : Int) ≥ (s.size : Int)) = true := decide_eq_true (by omega)
    go_wp2_with fail
    (with_reducible refine (rbad_any k1 _).mono ?_)
    rintro e w2 ⟨rfl, hB2⟩
    unfold RR RC
    have hb2 : BlkIs w2 r 56 (RC 0 false 0) := BlkIs.below hb0 hB2
    clear c0 c1 c2 f0 f1 f2
    obtain ⟨c0, c1, c2, f0, f1, f2⟩ := blk_cells hb2
    go_wp2_with fail
    refine ret_cell rfl rfl rfl (blk_put hb2 _ _ _) ?_
    exact ⟨k1, false, 0, rfl, below_put (hB0.trans (hB2.mono hB0.size)) (by rw [HR.out]; exact Nat.le_refl _) _ _ _, hk2, by omega, val_blk HB.out (val_end (by rw [HL.out]; omega))⟩

end Go.Proofs.Ytegoephanphnkaa
