/- Walks: the scanner's steps: a number (printed by gen/number.py). -/
import Derived.Test.YtacllonekidocaaDoorScanD
import Derived.Test.YtacllonekidocaaDoorAutoC
set_option linter.unusedVariables false
set_option linter.unusedSimpArgs false
set_option maxRecDepth 100000
namespace Go.Proofs.YtacllonekidocaaDoor
open Go.RowKit Go.Shelf L

theorem snext2 (g : Nat) (s : ByteArray) (k : Nat) (v : Value) (d m : Nat) (w : World) (hb : ScAt w g s k v d m) :
    Calls Tryd.prog 51 #[.pointer (some ⟨g, 0, none⟩)] w fun e w' => e = .returned (.int .u8 (at_ (nb s) k : Nat)) ∧ ScAt w' g s k v d m ∧ Sco g w w' :=
  (snext_any g s k v d m w hb).mono fun e w' ⟨he, n, hn⟩ => ⟨he, by rw [hn]; exact hb.drewN n, by rw [hn]; exact (Sco.refl g w).drewN n⟩

/-- A number at k. -/
def Num (l : List Nat) (k : Nat) (ok : Bool) (k' : Nat) : Prop := ∀ q, Goes l (to q 0) k ok (to q 5) k'

set_option maxHeartbeats 20000000 in
theorem snumber_any (g : Nat) (s : ByteArray) (k : Nat) (v : Value) (d m : Nat) (w : World) (hb : ScAt w g s k v d m) (hk : k ≤ s.size) (hs : s.size ≤ 65536) (hnumb : numb (at_ (nb s) k)) :
    Calls Tryd.prog 72 #[.pointer (some ⟨g, 0, none⟩)] w fun e w' => ∃ k' ok, e = .returned (.bool ok) ∧ ScAt w' g s k' v d m ∧ Sco g w w' ∧ Num (nb s) k ok k' := by
  have hll := nb_length s
  have ho := Sco.refl g w
  have HR := hid (show ∀ q, R (nb s) (to q 0) k (to q 0) k from fun q => R.refl (by rw [hll]; exact hk))
  go_enter Tryd.func72, Tryd.ntmps72
  have SN1 := hid (fun W hW => snext2 g s k v d m W hW)
  generalize hc1 : at_ (nb s) k = c1 at SN1
  have HC1 := hid hc1
  clear hc1
  go_wp2_with fail
  refine (SN1.out _ (by exact hb)).mono ?_
  rintro e w1 ⟨rfl, hb1, ho1'⟩
  have ho1 := (ho).trans ho1'
  clear SN1 ho1'
  by_cases hk1 : c1 = 45
  · have hkI1 : (c1 : Int) = 45 := by omega
    have HK1 := hid hk1
    obtain ⟨p2, hp2⟩ : ∃ p2, p2 = k + 1 := ⟨_, rfl⟩
    have c1_2 := (hb1).c1
    have f1_2 := (hb1).fr 1
    have x1_2 := wrap_oneS k (by omega)
    have hb2 := (hb1).at' p2 ((k : Int) + 1) (by omega)
    have ho2 := (ho1).set 1 (.int .i64 ((k : Int) + 1))
    have HR2 := hid (show ∀ q, R (nb s) (to q 0) k (to q 10) p2 from fun q => by rw [hp2]; exact (HR.out q).trans (num_minus (by rw [HC1.out]; exact HK1.out)))
    have le2 : p2 ≤ s.size := by have := (HR2.out L.start).le; rw [hll] at this; exact this.2
    have HP2 := hid hp2
    clear hp2
    have SN3 := hid (fun W hW => snext2 g s p2 v d m W hW)
    generalize hc3 : at_ (nb s) p2 = c3 at SN3
    have HC3 := hid hc3
    clear hc3
    go_wp2_with fail
    refine (SN3.out _ (by exact hb2)).mono ?_
    rintro e w3 ⟨rfl, hb3, ho3'⟩
    have ho3 := (ho2).trans ho3'
    clear SN3 ho3'
    by_cases hk3 : c3 = 48
    · have hkI3 : (c3 : Int) = 48 := by omega
      have HK3 := hid hk3
      obtain ⟨p4, hp4⟩ : ∃ p4, p4 = p2 + 1 := ⟨_, rfl⟩
      have c1_4 := (hb3).c1
      have f1_4 := (hb3).fr 1
      have x1_4 := wrap_oneS p2 (by omega)
      have hb4 := (hb3).at' p4 ((p2 : Int) + 1) (by omega)
      have ho4 := (ho3).set 1 (.int .i64 ((p2 : Int) + 1))
      have HR4 := hid (show ∀ q, R (nb s) (to q 0) k (to q 11) p4 from fun q => by rw [hp4]; exact (HR2.out q).trans (num_zero (Or.inr rfl) (by rw [HC3.out]; exact HK3.out)))
      have le4 : p4 ≤ s.size := by have := (HR4.out L.start).le; rw [hll] at this; exact this.2
      have HP4 := hid hp4
      clear hp4
      have SN5 := hid (fun W hW => snext2 g s p4 v d m W hW)
      generalize hc5 : at_ (nb s) p4 = c5 at SN5
      have HC5 := hid hc5
      clear hc5
      go_wp2_with fail
      refine (SN5.out _ (by exact hb4)).mono ?_
      rintro e w5 ⟨rfl, hb5, ho5'⟩
      have ho5 := (ho4).trans ho5'
      clear SN5 ho5'
      by_cases hk5 : c5 = 46
      · have hkI5 : (c5 : Int) = 46 := by omega
        have HK5 := hid hk5
        obtain ⟨p6, hp6⟩ : ∃ p6, p6 = p4 + 1 := ⟨_, rfl⟩
        have c1_6 := (hb5).c1
        have f1_6 := (hb5).fr 1
        have x1_6 := wrap_oneS p4 (by omega)
        have hb6 := (hb5).at' p6 ((p4 : Int) + 1) (by omega)
        have ho6 := (ho5).set 1 (.int .i64 ((p4 : Int) + 1))
        have HR6 := hid (show ∀ q, R (nb s) (to q 0) k (to q 13) p6 from fun q => by rw [hp6]; exact (HR4.out q).trans (num_dot (Or.inl rfl) (by rw [HC5.out]; exact HK5.out)))
        have le6 : p6 ≤ s.size := by have := (HR6.out L.start).le; rw [hll] at this; exact this.2
        have HP6 := hid hp6
        clear hp6
        go_wp2_with fail
        refine (sdigits_any g s p6 v d m _ (by exact hb6) le6 hs).mono ?_
        rintro e w7 ⟨p7, rfl, hb7, ho7', hdg7⟩
        have ho7 := (ho6).trans ho7'
        have le7 : p7 ≤ s.size := by have := hdg7.2.1; rw [hll] at this; exact this
        have DG7 := hid hdg7
        clear hdg7 ho7'
        rcases Nat.lt_or_ge p6 p7 with hlt7 | hge7
        · have hdd7 : decide (p6 < p7) = true := decide_eq_true hlt7
          have HR7 := hid (show ∀ q, R (nb s) (to q 0) k (to q 14) p7 from fun q => (HR6.out q).trans (num_frac hlt7 DG7.out.2.1 DG7.out.2.2.1))
          have SN8 := hid (fun W hW => snext2 g s p7 v d m W hW)
          generalize hc8 : at_ (nb s) p7 = c8 at SN8
          have HC8 := hid hc8
          clear hc8
          go_wp2_with fail
          refine (SN8.out _ (by exact hb7)).mono ?_
          rintro e w8 ⟨rfl, hb8, ho8'⟩
          have ho8 := (ho7).trans ho8'
          clear SN8 ho8'
          by_cases hk8 : c8 = 101 ∨ c8 = 69
          · have HK8 := hid hk8
            obtain ⟨p9, hp9⟩ : ∃ p9, p9 = p7 + 1 := ⟨_, rfl⟩
            have c1_9 := (hb8).c1
            have f1_9 := (hb8).fr 1
            have x1_9 := wrap_oneS p7 (by omega)
            have hb9 := (hb8).at' p9 ((p7 : Int) + 1) (by omega)
            have ho9 := (ho8).set 1 (.int .i64 ((p7 : Int) + 1))
            have HR9 := hid (show ∀ q, R (nb s) (to q 0) k (to q 15) p9 from fun q => by rw [hp9]; exact (HR7.out q).trans (num_exp (Or.inr (Or.inr rfl)) (by rw [HC8.out]; exact HK8.out)))
            have le9 : p9 ≤ s.size := by have := (HR9.out L.start).le; rw [hll] at this; exact this.2
            have HP9 := hid hp9
            clear hp9
            have hb101_8 : (((c8 : Int) != 101) && ((c8 : Int) != 69)) = false := by rcases hk8 with rfl | rfl <;> decide
            rcases hk8 with rfl | rfl
            all_goals
              have SN10 := hid (fun W hW => snext2 g s p9 v d m W hW)
              generalize hc10 : at_ (nb s) p9 = c10 at SN10
              have HC10 := hid hc10
              clear hc10
              go_wp2_with fail
              refine (SN10.out _ (by exact hb9)).mono ?_
              rintro e w10 ⟨rfl, hb10, ho10'⟩
              have ho10 := (ho9).trans ho10'
              clear SN10 ho10'
              by_cases hk10 : c10 = 43 ∨ c10 = 45
              · have HK10 := hid hk10
                obtain ⟨p11, hp11⟩ : ∃ p11, p11 = p9 + 1 := ⟨_, rfl⟩
                have c1_11 := (hb10).c1
                have f1_11 := (hb10).fr 1
                have x1_11 := wrap_oneS p9 (by omega)
                have hb11 := (hb10).at' p11 ((p9 : Int) + 1) (by omega)
                have ho11 := (ho10).set 1 (.int .i64 ((p9 : Int) + 1))
                have HR11 := hid (show ∀ q, R (nb s) (to q 0) k (to q 16) p11 from fun q => by rw [hp11]; exact (HR9.out q).trans (num_sign (by rw [HC10.out]; exact HK10.out)))
                have le11 : p11 ≤ s.size := by have := (HR11.out L.start).le; rw [hll] at this; exact this.2
                have HP11 := hid hp11
                clear hp11
                rcases hk10 with rfl | rfl
                all_goals
                  go_wp2_with fail
                  refine (sdigits_any g s p11 v d m _ (by exact hb11) le11 hs).mono ?_
                  rintro e w12 ⟨p12, rfl, hb12, ho12', hdg12⟩
                  have ho12 := (ho11).trans ho12'
                  have le12 : p12 ≤ s.size := by have := hdg12.2.1; rw [hll] at this; exact this
                  have DG12 := hid hdg12
                  clear hdg12 ho12'
                  go_wp2_with fail
                  go_ret
                  refine ⟨p12, decide (p11 < p12), rfl, hb12, ho12, fun q => ?_⟩
                  rcases Nat.lt_or_ge p11 p12 with hlt12 | hge12
                  · rw [decide_eq_true hlt12]
                    exact Goes.done (((HR11.out q).trans (num_expd (Or.inr rfl) hlt12 DG12.out.2.1 DG12.out.2.2.1)).like (num_end (Or.inr (Or.inr (Or.inr ⟨rfl, DG12.out.2.2.2⟩)))))
                  · rw [decide_eq_false (show ¬ p11 < p12 by omega)]
                    have heq12 : p12 = p11 := by have := DG12.out.1; omega
                    exact Goes.fail _ (by rw [heq12]; exact HR11.out q) (by rw [heq12]; exact num_expd_none (Or.inr rfl) (by rw [hll]; exact le11) (by rw [← heq12]; exact DG12.out.2.2.2))
              · have hkN10 : ((c10 : Int) == 43) = false := by rw [beq_eq_false_iff_ne]; omega
                have hkM10 : ((c10 : Int) == 45) = false := by rw [beq_eq_false_iff_ne]; omega
                have HK10 := hid (show at_ (nb s) p9 ≠ 43 ∧ at_ (nb s) p9 ≠ 45 by rw [HC10.out]; omega)
                go_wp2_with fail
                refine (sdigits_any g s p9 v d m _ (by exact hb10) le9 hs).mono ?_
                rintro e w13 ⟨p13, rfl, hb13, ho13', hdg13⟩
                have ho13 := (ho10).trans ho13'
                have le13 : p13 ≤ s.size := by have := hdg13.2.1; rw [hll] at this; exact this
                have DG13 := hid hdg13
                clear hdg13 ho13'
                go_wp2_with fail
                go_ret
                refine ⟨p13, decide (p9 < p13), rfl, hb13, ho13, fun q => ?_⟩
                rcases Nat.lt_or_ge p9 p13 with hlt13 | hge13
                · rw [decide_eq_true hlt13]
                  exact Goes.done (((HR9.out q).trans (num_expd (Or.inl rfl) hlt13 DG13.out.2.1 DG13.out.2.2.1)).like (num_end (Or.inr (Or.inr (Or.inr ⟨rfl, DG13.out.2.2.2⟩)))))
                · rw [decide_eq_false (show ¬ p9 < p13 by omega)]
                  have heq13 : p13 = p9 := by have := DG13.out.1; omega
                  exact Goes.fail _ (by rw [heq13]; exact HR9.out q) (by rw [heq13]; exact num_expd_none (Or.inl ⟨rfl, HK10.out.1, HK10.out.2⟩) (by rw [hll]; exact le9) (by rw [← heq13]; exact DG13.out.2.2.2))
          · have hkN8 : ((c8 : Int) != 101) = true := by rw [bne_iff_ne]; omega
            have hkM8 : ((c8 : Int) != 69) = true := by rw [bne_iff_ne]; omega
            have HK8 := hid (show at_ (nb s) p7 ≠ 101 ∧ at_ (nb s) p7 ≠ 69 by rw [HC8.out]; omega)
            go_wp2_with fail
            go_ret
            exact ⟨p7, true, rfl, hb8, ho8, fun q => Goes.done ((HR7.out q).like (num_end (Or.inr (Or.inr (Or.inl ⟨rfl, DG7.out.2.2.2, HK8.out.1, HK8.out.2⟩)))))⟩
        · have hdd7 : decide (p6 < p7) = false := decide_eq_false (by omega)
          have hdN7 : ¬ (p6 < p7) := by omega
          have heq7 : p7 = p6 := by have := DG7.out.1; omega
          go_wp2_with fail
          go_ret
          exact ⟨p7, false, rfl, hb7, ho7, fun q => Goes.fail _ (by rw [heq7]; exact HR6.out q) (by rw [heq7]; exact num_frac_none (by rw [hll]; exact le6) (by rw [← heq7]; exact DG7.out.2.2.2))⟩
      · have hkN5 : ((c5 : Int) == 46) = false := by rw [beq_eq_false_iff_ne]; omega
        have HK5 := hid (show at_ (nb s) p4 ≠ 46 by rw [HC5.out]; exact hk5)
        have SN14 := hid (fun W hW => snext2 g s p4 v d m W hW)
        generalize hc14 : at_ (nb s) p4 = c14 at SN14
        have HC14 := hid hc14
        clear hc14
        go_wp2_with fail
        refine (SN14.out _ (by exact hb5)).mono ?_
        rintro e w14 ⟨rfl, hb14, ho14'⟩
        have ho14 := (ho5).trans ho14'
        clear SN14 ho14'
        by_cases hk14 : c14 = 101 ∨ c14 = 69
        · have HK14 := hid hk14
          obtain ⟨p15, hp15⟩ : ∃ p15, p15 = p4 + 1 := ⟨_, rfl⟩
          have c1_15 := (hb14).c1
          have f1_15 := (hb14).fr 1
          have x1_15 := wrap_oneS p4 (by omega)
          have hb15 := (hb14).at' p15 ((p4 : Int) + 1) (by omega)
          have ho15 := (ho14).set 1 (.int .i64 ((p4 : Int) + 1))
          have HR15 := hid (show ∀ q, R (nb s) (to q 0) k (to q 15) p15 from fun q => by rw [hp15]; exact (HR4.out q).trans (num_exp (Or.inl rfl) (by rw [HC14.out]; exact HK14.out)))
          have le15 : p15 ≤ s.size := by have := (HR15.out L.start).le; rw [hll] at this; exact this.2
          have HP15 := hid hp15
          clear hp15
          have hb101_14 : (((c14 : Int) != 101) && ((c14 : Int) != 69)) = false := by rcases hk14 with rfl | rfl <;> decide
          rcases hk14 with rfl | rfl
          all_goals
            have SN16 := hid (fun W hW => snext2 g s p15 v d m W hW)
            generalize hc16 : at_ (nb s) p15 = c16 at SN16
            have HC16 := hid hc16
            clear hc16
            go_wp2_with fail
            refine (SN16.out _ (by exact hb15)).mono ?_
            rintro e w16 ⟨rfl, hb16, ho16'⟩
            have ho16 := (ho15).trans ho16'
            clear SN16 ho16'
            by_cases hk16 : c16 = 43 ∨ c16 = 45
            · have HK16 := hid hk16
              obtain ⟨p17, hp17⟩ : ∃ p17, p17 = p15 + 1 := ⟨_, rfl⟩
              have c1_17 := (hb16).c1
              have f1_17 := (hb16).fr 1
              have x1_17 := wrap_oneS p15 (by omega)
              have hb17 := (hb16).at' p17 ((p15 : Int) + 1) (by omega)
              have ho17 := (ho16).set 1 (.int .i64 ((p15 : Int) + 1))
              have HR17 := hid (show ∀ q, R (nb s) (to q 0) k (to q 16) p17 from fun q => by rw [hp17]; exact (HR15.out q).trans (num_sign (by rw [HC16.out]; exact HK16.out)))
              have le17 : p17 ≤ s.size := by have := (HR17.out L.start).le; rw [hll] at this; exact this.2
              have HP17 := hid hp17
              clear hp17
              rcases hk16 with rfl | rfl
              all_goals
                go_wp2_with fail
                refine (sdigits_any g s p17 v d m _ (by exact hb17) le17 hs).mono ?_
                rintro e w18 ⟨p18, rfl, hb18, ho18', hdg18⟩
                have ho18 := (ho17).trans ho18'
                have le18 : p18 ≤ s.size := by have := hdg18.2.1; rw [hll] at this; exact this
                have DG18 := hid hdg18
                clear hdg18 ho18'
                go_wp2_with fail
                go_ret
                refine ⟨p18, decide (p17 < p18), rfl, hb18, ho18, fun q => ?_⟩
                rcases Nat.lt_or_ge p17 p18 with hlt18 | hge18
                · rw [decide_eq_true hlt18]
                  exact Goes.done (((HR17.out q).trans (num_expd (Or.inr rfl) hlt18 DG18.out.2.1 DG18.out.2.2.1)).like (num_end (Or.inr (Or.inr (Or.inr ⟨rfl, DG18.out.2.2.2⟩)))))
                · rw [decide_eq_false (show ¬ p17 < p18 by omega)]
                  have heq18 : p18 = p17 := by have := DG18.out.1; omega
                  exact Goes.fail _ (by rw [heq18]; exact HR17.out q) (by rw [heq18]; exact num_expd_none (Or.inr rfl) (by rw [hll]; exact le17) (by rw [← heq18]; exact DG18.out.2.2.2))
            · have hkN16 : ((c16 : Int) == 43) = false := by rw [beq_eq_false_iff_ne]; omega
              have hkM16 : ((c16 : Int) == 45) = false := by rw [beq_eq_false_iff_ne]; omega
              have HK16 := hid (show at_ (nb s) p15 ≠ 43 ∧ at_ (nb s) p15 ≠ 45 by rw [HC16.out]; omega)
              go_wp2_with fail
              refine (sdigits_any g s p15 v d m _ (by exact hb16) le15 hs).mono ?_
              rintro e w19 ⟨p19, rfl, hb19, ho19', hdg19⟩
              have ho19 := (ho16).trans ho19'
              have le19 : p19 ≤ s.size := by have := hdg19.2.1; rw [hll] at this; exact this
              have DG19 := hid hdg19
              clear hdg19 ho19'
              go_wp2_with fail
              go_ret
              refine ⟨p19, decide (p15 < p19), rfl, hb19, ho19, fun q => ?_⟩
              rcases Nat.lt_or_ge p15 p19 with hlt19 | hge19
              · rw [decide_eq_true hlt19]
                exact Goes.done (((HR15.out q).trans (num_expd (Or.inl rfl) hlt19 DG19.out.2.1 DG19.out.2.2.1)).like (num_end (Or.inr (Or.inr (Or.inr ⟨rfl, DG19.out.2.2.2⟩)))))
              · rw [decide_eq_false (show ¬ p15 < p19 by omega)]
                have heq19 : p19 = p15 := by have := DG19.out.1; omega
                exact Goes.fail _ (by rw [heq19]; exact HR15.out q) (by rw [heq19]; exact num_expd_none (Or.inl ⟨rfl, HK16.out.1, HK16.out.2⟩) (by rw [hll]; exact le15) (by rw [← heq19]; exact DG19.out.2.2.2))
        · have hkN14 : ((c14 : Int) != 101) = true := by rw [bne_iff_ne]; omega
          have hkM14 : ((c14 : Int) != 69) = true := by rw [bne_iff_ne]; omega
          have HK14 := hid (show at_ (nb s) p4 ≠ 101 ∧ at_ (nb s) p4 ≠ 69 by rw [HC14.out]; omega)
          go_wp2_with fail
          go_ret
          exact ⟨p4, true, rfl, hb14, ho14, fun q => Goes.done ((HR4.out q).like (num_end (Or.inl ⟨rfl, HK5.out, HK14.out.1, HK14.out.2⟩)))⟩
    · have hkN3 : ((c3 : Int) == 48) = false := by rw [beq_eq_false_iff_ne]; omega
      have HK3 := hid hk3
      go_wp2_with fail
      refine (sdigits_any g s p2 v d m _ (by exact hb3) le2 hs).mono ?_
      rintro e w20 ⟨p20, rfl, hb20, ho20', hdg20⟩
      have ho20 := (ho3).trans ho20'
      have le20 : p20 ≤ s.size := by have := hdg20.2.1; rw [hll] at this; exact this
      have DG20 := hid hdg20
      clear hdg20 ho20'
      rcases Nat.lt_or_ge p2 p20 with hlt20 | hge20
      · have hdd20 : decide (p2 < p20) = true := decide_eq_true hlt20
        have HR20 := hid (show ∀ q, R (nb s) (to q 0) k (to q 12) p20 from fun q => (HR2.out q).trans (num_int (Or.inr rfl) (by rw [HC3.out]; exact HK3.out) hlt20 DG20.out.2.1 DG20.out.2.2.1))
        have SN21 := hid (fun W hW => snext2 g s p20 v d m W hW)
        generalize hc21 : at_ (nb s) p20 = c21 at SN21
        have HC21 := hid hc21
        clear hc21
        go_wp2_with fail
        refine (SN21.out _ (by exact hb20)).mono ?_
        rintro e w21 ⟨rfl, hb21, ho21'⟩
        have ho21 := (ho20).trans ho21'
        clear SN21 ho21'
        by_cases hk21 : c21 = 46
        · have hkI21 : (c21 : Int) = 46 := by omega
          have HK21 := hid hk21
          obtain ⟨p22, hp22⟩ : ∃ p22, p22 = p20 + 1 := ⟨_, rfl⟩
          have c1_22 := (hb21).c1
          have f1_22 := (hb21).fr 1
          have x1_22 := wrap_oneS p20 (by omega)
          have hb22 := (hb21).at' p22 ((p20 : Int) + 1) (by omega)
          have ho22 := (ho21).set 1 (.int .i64 ((p20 : Int) + 1))
          have HR22 := hid (show ∀ q, R (nb s) (to q 0) k (to q 13) p22 from fun q => by rw [hp22]; exact (HR20.out q).trans (num_dot (Or.inr rfl) (by rw [HC21.out]; exact HK21.out)))
          have le22 : p22 ≤ s.size := by have := (HR22.out L.start).le; rw [hll] at this; exact this.2
          have HP22 := hid hp22
          clear hp22
          go_wp2_with fail
          refine (sdigits_any g s p22 v d m _ (by exact hb22) le22 hs).mono ?_
          rintro e w23 ⟨p23, rfl, hb23, ho23', hdg23⟩
          have ho23 := (ho22).trans ho23'
          have le23 : p23 ≤ s.size := by have := hdg23.2.1; rw [hll] at this; exact this
          have DG23 := hid hdg23
          clear hdg23 ho23'
          rcases Nat.lt_or_ge p22 p23 with hlt23 | hge23
          · have hdd23 : decide (p22 < p23) = true := decide_eq_true hlt23
            have HR23 := hid (show ∀ q, R (nb s) (to q 0) k (to q 14) p23 from fun q => (HR22.out q).trans (num_frac hlt23 DG23.out.2.1 DG23.out.2.2.1))
            have SN24 := hid (fun W hW => snext2 g s p23 v d m W hW)
            generalize hc24 : at_ (nb s) p23 = c24 at SN24
            have HC24 := hid hc24
            clear hc24
            go_wp2_with fail
            refine (SN24.out _ (by exact hb23)).mono ?_
            rintro e w24 ⟨rfl, hb24, ho24'⟩
            have ho24 := (ho23).trans ho24'
            clear SN24 ho24'
            by_cases hk24 : c24 = 101 ∨ c24 = 69
            · have HK24 := hid hk24
              obtain ⟨p25, hp25⟩ : ∃ p25, p25 = p23 + 1 := ⟨_, rfl⟩
              have c1_25 := (hb24).c1
              have f1_25 := (hb24).fr 1
              have x1_25 := wrap_oneS p23 (by omega)
              have hb25 := (hb24).at' p25 ((p23 : Int) + 1) (by omega)
              have ho25 := (ho24).set 1 (.int .i64 ((p23 : Int) + 1))
              have HR25 := hid (show ∀ q, R (nb s) (to q 0) k (to q 15) p25 from fun q => by rw [hp25]; exact (HR23.out q).trans (num_exp (Or.inr (Or.inr rfl)) (by rw [HC24.out]; exact HK24.out)))
              have le25 : p25 ≤ s.size := by have := (HR25.out L.start).le; rw [hll] at this; exact this.2
              have HP25 := hid hp25
              clear hp25
              have hb101_24 : (((c24 : Int) != 101) && ((c24 : Int) != 69)) = false := by rcases hk24 with rfl | rfl <;> decide
              rcases hk24 with rfl | rfl
              all_goals
                have SN26 := hid (fun W hW => snext2 g s p25 v d m W hW)
                generalize hc26 : at_ (nb s) p25 = c26 at SN26
                have HC26 := hid hc26
                clear hc26
                go_wp2_with fail
                refine (SN26.out _ (by exact hb25)).mono ?_
                rintro e w26 ⟨rfl, hb26, ho26'⟩
                have ho26 := (ho25).trans ho26'
                clear SN26 ho26'
                by_cases hk26 : c26 = 43 ∨ c26 = 45
                · have HK26 := hid hk26
                  obtain ⟨p27, hp27⟩ : ∃ p27, p27 = p25 + 1 := ⟨_, rfl⟩
                  have c1_27 := (hb26).c1
                  have f1_27 := (hb26).fr 1
                  have x1_27 := wrap_oneS p25 (by omega)
                  have hb27 := (hb26).at' p27 ((p25 : Int) + 1) (by omega)
                  have ho27 := (ho26).set 1 (.int .i64 ((p25 : Int) + 1))
                  have HR27 := hid (show ∀ q, R (nb s) (to q 0) k (to q 16) p27 from fun q => by rw [hp27]; exact (HR25.out q).trans (num_sign (by rw [HC26.out]; exact HK26.out)))
                  have le27 : p27 ≤ s.size := by have := (HR27.out L.start).le; rw [hll] at this; exact this.2
                  have HP27 := hid hp27
                  clear hp27
                  rcases hk26 with rfl | rfl
                  all_goals
                    go_wp2_with fail
                    refine (sdigits_any g s p27 v d m _ (by exact hb27) le27 hs).mono ?_
                    rintro e w28 ⟨p28, rfl, hb28, ho28', hdg28⟩
                    have ho28 := (ho27).trans ho28'
                    have le28 : p28 ≤ s.size := by have := hdg28.2.1; rw [hll] at this; exact this
                    have DG28 := hid hdg28
                    clear hdg28 ho28'
                    go_wp2_with fail
                    go_ret
                    refine ⟨p28, decide (p27 < p28), rfl, hb28, ho28, fun q => ?_⟩
                    rcases Nat.lt_or_ge p27 p28 with hlt28 | hge28
                    · rw [decide_eq_true hlt28]
                      exact Goes.done (((HR27.out q).trans (num_expd (Or.inr rfl) hlt28 DG28.out.2.1 DG28.out.2.2.1)).like (num_end (Or.inr (Or.inr (Or.inr ⟨rfl, DG28.out.2.2.2⟩)))))
                    · rw [decide_eq_false (show ¬ p27 < p28 by omega)]
                      have heq28 : p28 = p27 := by have := DG28.out.1; omega
                      exact Goes.fail _ (by rw [heq28]; exact HR27.out q) (by rw [heq28]; exact num_expd_none (Or.inr rfl) (by rw [hll]; exact le27) (by rw [← heq28]; exact DG28.out.2.2.2))
                · have hkN26 : ((c26 : Int) == 43) = false := by rw [beq_eq_false_iff_ne]; omega
                  have hkM26 : ((c26 : Int) == 45) = false := by rw [beq_eq_false_iff_ne]; omega
                  have HK26 := hid (show at_ (nb s) p25 ≠ 43 ∧ at_ (nb s) p25 ≠ 45 by rw [HC26.out]; omega)
                  go_wp2_with fail
                  refine (sdigits_any g s p25 v d m _ (by exact hb26) le25 hs).mono ?_
                  rintro e w29 ⟨p29, rfl, hb29, ho29', hdg29⟩
                  have ho29 := (ho26).trans ho29'
                  have le29 : p29 ≤ s.size := by have := hdg29.2.1; rw [hll] at this; exact this
                  have DG29 := hid hdg29
                  clear hdg29 ho29'
                  go_wp2_with fail
                  go_ret
                  refine ⟨p29, decide (p25 < p29), rfl, hb29, ho29, fun q => ?_⟩
                  rcases Nat.lt_or_ge p25 p29 with hlt29 | hge29
                  · rw [decide_eq_true hlt29]
                    exact Goes.done (((HR25.out q).trans (num_expd (Or.inl rfl) hlt29 DG29.out.2.1 DG29.out.2.2.1)).like (num_end (Or.inr (Or.inr (Or.inr ⟨rfl, DG29.out.2.2.2⟩)))))
                  · rw [decide_eq_false (show ¬ p25 < p29 by omega)]
                    have heq29 : p29 = p25 := by have := DG29.out.1; omega
                    exact Goes.fail _ (by rw [heq29]; exact HR25.out q) (by rw [heq29]; exact num_expd_none (Or.inl ⟨rfl, HK26.out.1, HK26.out.2⟩) (by rw [hll]; exact le25) (by rw [← heq29]; exact DG29.out.2.2.2))
            · have hkN24 : ((c24 : Int) != 101) = true := by rw [bne_iff_ne]; omega
              have hkM24 : ((c24 : Int) != 69) = true := by rw [bne_iff_ne]; omega
              have HK24 := hid (show at_ (nb s) p23 ≠ 101 ∧ at_ (nb s) p23 ≠ 69 by rw [HC24.out]; omega)
              go_wp2_with fail
              go_ret
              exact ⟨p23, true, rfl, hb24, ho24, fun q => Goes.done ((HR23.out q).like (num_end (Or.inr (Or.inr (Or.inl ⟨rfl, DG23.out.2.2.2, HK24.out.1, HK24.out.2⟩)))))⟩
          · have hdd23 : decide (p22 < p23) = false := decide_eq_false (by omega)
            have hdN23 : ¬ (p22 < p23) := by omega
            have heq23 : p23 = p22 := by have := DG23.out.1; omega
            go_wp2_with fail
            go_ret
            exact ⟨p23, false, rfl, hb23, ho23, fun q => Goes.fail _ (by rw [heq23]; exact HR22.out q) (by rw [heq23]; exact num_frac_none (by rw [hll]; exact le22) (by rw [← heq23]; exact DG23.out.2.2.2))⟩
        · have hkN21 : ((c21 : Int) == 46) = false := by rw [beq_eq_false_iff_ne]; omega
          have HK21 := hid (show at_ (nb s) p20 ≠ 46 by rw [HC21.out]; exact hk21)
          have SN30 := hid (fun W hW => snext2 g s p20 v d m W hW)
          generalize hc30 : at_ (nb s) p20 = c30 at SN30
          have HC30 := hid hc30
          clear hc30
          go_wp2_with fail
          refine (SN30.out _ (by exact hb21)).mono ?_
          rintro e w30 ⟨rfl, hb30, ho30'⟩
          have ho30 := (ho21).trans ho30'
          clear SN30 ho30'
          by_cases hk30 : c30 = 101 ∨ c30 = 69
          · have HK30 := hid hk30
            obtain ⟨p31, hp31⟩ : ∃ p31, p31 = p20 + 1 := ⟨_, rfl⟩
            have c1_31 := (hb30).c1
            have f1_31 := (hb30).fr 1
            have x1_31 := wrap_oneS p20 (by omega)
            have hb31 := (hb30).at' p31 ((p20 : Int) + 1) (by omega)
            have ho31 := (ho30).set 1 (.int .i64 ((p20 : Int) + 1))
            have HR31 := hid (show ∀ q, R (nb s) (to q 0) k (to q 15) p31 from fun q => by rw [hp31]; exact (HR20.out q).trans (num_exp (Or.inr (Or.inl rfl)) (by rw [HC30.out]; exact HK30.out)))
            have le31 : p31 ≤ s.size := by have := (HR31.out L.start).le; rw [hll] at this; exact this.2
            have HP31 := hid hp31
            clear hp31
            have hb101_30 : (((c30 : Int) != 101) && ((c30 : Int) != 69)) = false := by rcases hk30 with rfl | rfl <;> decide
            rcases hk30 with rfl | rfl
            all_goals
              have SN32 := hid (fun W hW => snext2 g s p31 v d m W hW)
              generalize hc32 : at_ (nb s) p31 = c32 at SN32
              have HC32 := hid hc32
              clear hc32
              go_wp2_with fail
              refine (SN32.out _ (by exact hb31)).mono ?_
              rintro e w32 ⟨rfl, hb32, ho32'⟩
              have ho32 := (ho31).trans ho32'
              clear SN32 ho32'
              by_cases hk32 : c32 = 43 ∨ c32 = 45
              · have HK32 := hid hk32
                obtain ⟨p33, hp33⟩ : ∃ p33, p33 = p31 + 1 := ⟨_, rfl⟩
                have c1_33 := (hb32).c1
                have f1_33 := (hb32).fr 1
                have x1_33 := wrap_oneS p31 (by omega)
                have hb33 := (hb32).at' p33 ((p31 : Int) + 1) (by omega)
                have ho33 := (ho32).set 1 (.int .i64 ((p31 : Int) + 1))
                have HR33 := hid (show ∀ q, R (nb s) (to q 0) k (to q 16) p33 from fun q => by rw [hp33]; exact (HR31.out q).trans (num_sign (by rw [HC32.out]; exact HK32.out)))
                have le33 : p33 ≤ s.size := by have := (HR33.out L.start).le; rw [hll] at this; exact this.2
                have HP33 := hid hp33
                clear hp33
                rcases hk32 with rfl | rfl
                all_goals
                  go_wp2_with fail
                  refine (sdigits_any g s p33 v d m _ (by exact hb33) le33 hs).mono ?_
                  rintro e w34 ⟨p34, rfl, hb34, ho34', hdg34⟩
                  have ho34 := (ho33).trans ho34'
                  have le34 : p34 ≤ s.size := by have := hdg34.2.1; rw [hll] at this; exact this
                  have DG34 := hid hdg34
                  clear hdg34 ho34'
                  go_wp2_with fail
                  go_ret
                  refine ⟨p34, decide (p33 < p34), rfl, hb34, ho34, fun q => ?_⟩
                  rcases Nat.lt_or_ge p33 p34 with hlt34 | hge34
                  · rw [decide_eq_true hlt34]
                    exact Goes.done (((HR33.out q).trans (num_expd (Or.inr rfl) hlt34 DG34.out.2.1 DG34.out.2.2.1)).like (num_end (Or.inr (Or.inr (Or.inr ⟨rfl, DG34.out.2.2.2⟩)))))
                  · rw [decide_eq_false (show ¬ p33 < p34 by omega)]
                    have heq34 : p34 = p33 := by have := DG34.out.1; omega
                    exact Goes.fail _ (by rw [heq34]; exact HR33.out q) (by rw [heq34]; exact num_expd_none (Or.inr rfl) (by rw [hll]; exact le33) (by rw [← heq34]; exact DG34.out.2.2.2))
              · have hkN32 : ((c32 : Int) == 43) = false := by rw [beq_eq_false_iff_ne]; omega
                have hkM32 : ((c32 : Int) == 45) = false := by rw [beq_eq_false_iff_ne]; omega
                have HK32 := hid (show at_ (nb s) p31 ≠ 43 ∧ at_ (nb s) p31 ≠ 45 by rw [HC32.out]; omega)
                go_wp2_with fail
                refine (sdigits_any g s p31 v d m _ (by exact hb32) le31 hs).mono ?_
                rintro e w35 ⟨p35, rfl, hb35, ho35', hdg35⟩
                have ho35 := (ho32).trans ho35'
                have le35 : p35 ≤ s.size := by have := hdg35.2.1; rw [hll] at this; exact this
                have DG35 := hid hdg35
                clear hdg35 ho35'
                go_wp2_with fail
                go_ret
                refine ⟨p35, decide (p31 < p35), rfl, hb35, ho35, fun q => ?_⟩
                rcases Nat.lt_or_ge p31 p35 with hlt35 | hge35
                · rw [decide_eq_true hlt35]
                  exact Goes.done (((HR31.out q).trans (num_expd (Or.inl rfl) hlt35 DG35.out.2.1 DG35.out.2.2.1)).like (num_end (Or.inr (Or.inr (Or.inr ⟨rfl, DG35.out.2.2.2⟩)))))
                · rw [decide_eq_false (show ¬ p31 < p35 by omega)]
                  have heq35 : p35 = p31 := by have := DG35.out.1; omega
                  exact Goes.fail _ (by rw [heq35]; exact HR31.out q) (by rw [heq35]; exact num_expd_none (Or.inl ⟨rfl, HK32.out.1, HK32.out.2⟩) (by rw [hll]; exact le31) (by rw [← heq35]; exact DG35.out.2.2.2))
          · have hkN30 : ((c30 : Int) != 101) = true := by rw [bne_iff_ne]; omega
            have hkM30 : ((c30 : Int) != 69) = true := by rw [bne_iff_ne]; omega
            have HK30 := hid (show at_ (nb s) p20 ≠ 101 ∧ at_ (nb s) p20 ≠ 69 by rw [HC30.out]; omega)
            go_wp2_with fail
            go_ret
            exact ⟨p20, true, rfl, hb30, ho30, fun q => Goes.done ((HR20.out q).like (num_end (Or.inr (Or.inl ⟨rfl, DG20.out.2.2.2, HK21.out, HK30.out.1, HK30.out.2⟩))))⟩
      · have hdd20 : decide (p2 < p20) = false := decide_eq_false (by omega)
        have hdN20 : ¬ (p2 < p20) := by omega
        have heq20 : p20 = p2 := by have := DG20.out.1; omega
        go_wp2_with fail
        go_ret
        exact ⟨p20, false, rfl, hb20, ho20, fun q => Goes.fail _ (by rw [heq20]; exact HR2.out q) (by rw [heq20]; exact num_none (Or.inr rfl) (by rw [hll]; exact le2) (by rw [← heq20]; exact DG20.out.2.2.2))⟩
  · have hkN1 : ((c1 : Int) == 45) = false := by rw [beq_eq_false_iff_ne]; omega
    have HK1 := hid (show at_ (nb s) k ≠ 45 by rw [HC1.out]; exact hk1)
    have SN36 := hid (fun W hW => snext2 g s k v d m W hW)
    generalize hc36 : at_ (nb s) k = c36 at SN36
    have HC36 := hid hc36
    clear hc36
    go_wp2_with fail
    refine (SN36.out _ (by exact hb1)).mono ?_
    rintro e w36 ⟨rfl, hb36, ho36'⟩
    have ho36 := (ho1).trans ho36'
    clear SN36 ho36'
    by_cases hk36 : c36 = 48
    · have hkI36 : (c36 : Int) = 48 := by omega
      have HK36 := hid hk36
      obtain ⟨p37, hp37⟩ : ∃ p37, p37 = k + 1 := ⟨_, rfl⟩
      have c1_37 := (hb36).c1
      have f1_37 := (hb36).fr 1
      have x1_37 := wrap_oneS k (by omega)
      have hb37 := (hb36).at' p37 ((k : Int) + 1) (by omega)
      have ho37 := (ho36).set 1 (.int .i64 ((k : Int) + 1))
      have HR37 := hid (show ∀ q, R (nb s) (to q 0) k (to q 11) p37 from fun q => by rw [hp37]; exact (HR.out q).trans (num_zero (Or.inl rfl) (by rw [HC36.out]; exact HK36.out)))
      have le37 : p37 ≤ s.size := by have := (HR37.out L.start).le; rw [hll] at this; exact this.2
      have HP37 := hid hp37
      clear hp37
      have SN38 := hid (fun W hW => snext2 g s p37 v d m W hW)
      generalize hc38 : at_ (nb s) p37 = c38 at SN38
      have HC38 := hid hc38
      clear hc38
      go_wp2_with fail
      refine (SN38.out _ (by exact hb37)).mono ?_
      rintro e w38 ⟨rfl, hb38, ho38'⟩
      have ho38 := (ho37).trans ho38'
      clear SN38 ho38'
      by_cases hk38 : c38 = 46
      · have hkI38 : (c38 : Int) = 46 := by omega
        have HK38 := hid hk38
        obtain ⟨p39, hp39⟩ : ∃ p39, p39 = p37 + 1 := ⟨_, rfl⟩
        have c1_39 := (hb38).c1
        have f1_39 := (hb38).fr 1
        have x1_39 := wrap_oneS p37 (by omega)
        have hb39 := (hb38).at' p39 ((p37 : Int) + 1) (by omega)
        have ho39 := (ho38).set 1 (.int .i64 ((p37 : Int) + 1))
        have HR39 := hid (show ∀ q, R (nb s) (to q 0) k (to q 13) p39 from fun q => by rw [hp39]; exact (HR37.out q).trans (num_dot (Or.inl rfl) (by rw [HC38.out]; exact HK38.out)))
        have le39 : p39 ≤ s.size := by have := (HR39.out L.start).le; rw [hll] at this; exact this.2
        have HP39 := hid hp39
        clear hp39
        go_wp2_with fail
        refine (sdigits_any g s p39 v d m _ (by exact hb39) le39 hs).mono ?_
        rintro e w40 ⟨p40, rfl, hb40, ho40', hdg40⟩
        have ho40 := (ho39).trans ho40'
        have le40 : p40 ≤ s.size := by have := hdg40.2.1; rw [hll] at this; exact this
        have DG40 := hid hdg40
        clear hdg40 ho40'
        rcases Nat.lt_or_ge p39 p40 with hlt40 | hge40
        · have hdd40 : decide (p39 < p40) = true := decide_eq_true hlt40
          have HR40 := hid (show ∀ q, R (nb s) (to q 0) k (to q 14) p40 from fun q => (HR39.out q).trans (num_frac hlt40 DG40.out.2.1 DG40.out.2.2.1))
          have SN41 := hid (fun W hW => snext2 g s p40 v d m W hW)
          generalize hc41 : at_ (nb s) p40 = c41 at SN41
          have HC41 := hid hc41
          clear hc41
          go_wp2_with fail
          refine (SN41.out _ (by exact hb40)).mono ?_
          rintro e w41 ⟨rfl, hb41, ho41'⟩
          have ho41 := (ho40).trans ho41'
          clear SN41 ho41'
          by_cases hk41 : c41 = 101 ∨ c41 = 69
          · have HK41 := hid hk41
            obtain ⟨p42, hp42⟩ : ∃ p42, p42 = p40 + 1 := ⟨_, rfl⟩
            have c1_42 := (hb41).c1
            have f1_42 := (hb41).fr 1
            have x1_42 := wrap_oneS p40 (by omega)
            have hb42 := (hb41).at' p42 ((p40 : Int) + 1) (by omega)
            have ho42 := (ho41).set 1 (.int .i64 ((p40 : Int) + 1))
            have HR42 := hid (show ∀ q, R (nb s) (to q 0) k (to q 15) p42 from fun q => by rw [hp42]; exact (HR40.out q).trans (num_exp (Or.inr (Or.inr rfl)) (by rw [HC41.out]; exact HK41.out)))
            have le42 : p42 ≤ s.size := by have := (HR42.out L.start).le; rw [hll] at this; exact this.2
            have HP42 := hid hp42
            clear hp42
            have hb101_41 : (((c41 : Int) != 101) && ((c41 : Int) != 69)) = false := by rcases hk41 with rfl | rfl <;> decide
            rcases hk41 with rfl | rfl
            all_goals
              have SN43 := hid (fun W hW => snext2 g s p42 v d m W hW)
              generalize hc43 : at_ (nb s) p42 = c43 at SN43
              have HC43 := hid hc43
              clear hc43
              go_wp2_with fail
              refine (SN43.out _ (by exact hb42)).mono ?_
              rintro e w43 ⟨rfl, hb43, ho43'⟩
              have ho43 := (ho42).trans ho43'
              clear SN43 ho43'
              by_cases hk43 : c43 = 43 ∨ c43 = 45
              · have HK43 := hid hk43
                obtain ⟨p44, hp44⟩ : ∃ p44, p44 = p42 + 1 := ⟨_, rfl⟩
                have c1_44 := (hb43).c1
                have f1_44 := (hb43).fr 1
                have x1_44 := wrap_oneS p42 (by omega)
                have hb44 := (hb43).at' p44 ((p42 : Int) + 1) (by omega)
                have ho44 := (ho43).set 1 (.int .i64 ((p42 : Int) + 1))
                have HR44 := hid (show ∀ q, R (nb s) (to q 0) k (to q 16) p44 from fun q => by rw [hp44]; exact (HR42.out q).trans (num_sign (by rw [HC43.out]; exact HK43.out)))
                have le44 : p44 ≤ s.size := by have := (HR44.out L.start).le; rw [hll] at this; exact this.2
                have HP44 := hid hp44
                clear hp44
                rcases hk43 with rfl | rfl
                all_goals
                  go_wp2_with fail
                  refine (sdigits_any g s p44 v d m _ (by exact hb44) le44 hs).mono ?_
                  rintro e w45 ⟨p45, rfl, hb45, ho45', hdg45⟩
                  have ho45 := (ho44).trans ho45'
                  have le45 : p45 ≤ s.size := by have := hdg45.2.1; rw [hll] at this; exact this
                  have DG45 := hid hdg45
                  clear hdg45 ho45'
                  go_wp2_with fail
                  go_ret
                  refine ⟨p45, decide (p44 < p45), rfl, hb45, ho45, fun q => ?_⟩
                  rcases Nat.lt_or_ge p44 p45 with hlt45 | hge45
                  · rw [decide_eq_true hlt45]
                    exact Goes.done (((HR44.out q).trans (num_expd (Or.inr rfl) hlt45 DG45.out.2.1 DG45.out.2.2.1)).like (num_end (Or.inr (Or.inr (Or.inr ⟨rfl, DG45.out.2.2.2⟩)))))
                  · rw [decide_eq_false (show ¬ p44 < p45 by omega)]
                    have heq45 : p45 = p44 := by have := DG45.out.1; omega
                    exact Goes.fail _ (by rw [heq45]; exact HR44.out q) (by rw [heq45]; exact num_expd_none (Or.inr rfl) (by rw [hll]; exact le44) (by rw [← heq45]; exact DG45.out.2.2.2))
              · have hkN43 : ((c43 : Int) == 43) = false := by rw [beq_eq_false_iff_ne]; omega
                have hkM43 : ((c43 : Int) == 45) = false := by rw [beq_eq_false_iff_ne]; omega
                have HK43 := hid (show at_ (nb s) p42 ≠ 43 ∧ at_ (nb s) p42 ≠ 45 by rw [HC43.out]; omega)
                go_wp2_with fail
                refine (sdigits_any g s p42 v d m _ (by exact hb43) le42 hs).mono ?_
                rintro e w46 ⟨p46, rfl, hb46, ho46', hdg46⟩
                have ho46 := (ho43).trans ho46'
                have le46 : p46 ≤ s.size := by have := hdg46.2.1; rw [hll] at this; exact this
                have DG46 := hid hdg46
                clear hdg46 ho46'
                go_wp2_with fail
                go_ret
                refine ⟨p46, decide (p42 < p46), rfl, hb46, ho46, fun q => ?_⟩
                rcases Nat.lt_or_ge p42 p46 with hlt46 | hge46
                · rw [decide_eq_true hlt46]
                  exact Goes.done (((HR42.out q).trans (num_expd (Or.inl rfl) hlt46 DG46.out.2.1 DG46.out.2.2.1)).like (num_end (Or.inr (Or.inr (Or.inr ⟨rfl, DG46.out.2.2.2⟩)))))
                · rw [decide_eq_false (show ¬ p42 < p46 by omega)]
                  have heq46 : p46 = p42 := by have := DG46.out.1; omega
                  exact Goes.fail _ (by rw [heq46]; exact HR42.out q) (by rw [heq46]; exact num_expd_none (Or.inl ⟨rfl, HK43.out.1, HK43.out.2⟩) (by rw [hll]; exact le42) (by rw [← heq46]; exact DG46.out.2.2.2))
          · have hkN41 : ((c41 : Int) != 101) = true := by rw [bne_iff_ne]; omega
            have hkM41 : ((c41 : Int) != 69) = true := by rw [bne_iff_ne]; omega
            have HK41 := hid (show at_ (nb s) p40 ≠ 101 ∧ at_ (nb s) p40 ≠ 69 by rw [HC41.out]; omega)
            go_wp2_with fail
            go_ret
            exact ⟨p40, true, rfl, hb41, ho41, fun q => Goes.done ((HR40.out q).like (num_end (Or.inr (Or.inr (Or.inl ⟨rfl, DG40.out.2.2.2, HK41.out.1, HK41.out.2⟩)))))⟩
        · have hdd40 : decide (p39 < p40) = false := decide_eq_false (by omega)
          have hdN40 : ¬ (p39 < p40) := by omega
          have heq40 : p40 = p39 := by have := DG40.out.1; omega
          go_wp2_with fail
          go_ret
          exact ⟨p40, false, rfl, hb40, ho40, fun q => Goes.fail _ (by rw [heq40]; exact HR39.out q) (by rw [heq40]; exact num_frac_none (by rw [hll]; exact le39) (by rw [← heq40]; exact DG40.out.2.2.2))⟩
      · have hkN38 : ((c38 : Int) == 46) = false := by rw [beq_eq_false_iff_ne]; omega
        have HK38 := hid (show at_ (nb s) p37 ≠ 46 by rw [HC38.out]; exact hk38)
        have SN47 := hid (fun W hW => snext2 g s p37 v d m W hW)
        generalize hc47 : at_ (nb s) p37 = c47 at SN47
        have HC47 := hid hc47
        clear hc47
        go_wp2_with fail
        refine (SN47.out _ (by exact hb38)).mono ?_
        rintro e w47 ⟨rfl, hb47, ho47'⟩
        have ho47 := (ho38).trans ho47'
        clear SN47 ho47'
        by_cases hk47 : c47 = 101 ∨ c47 = 69
        · have HK47 := hid hk47
          obtain ⟨p48, hp48⟩ : ∃ p48, p48 = p37 + 1 := ⟨_, rfl⟩
          have c1_48 := (hb47).c1
          have f1_48 := (hb47).fr 1
          have x1_48 := wrap_oneS p37 (by omega)
          have hb48 := (hb47).at' p48 ((p37 : Int) + 1) (by omega)
          have ho48 := (ho47).set 1 (.int .i64 ((p37 : Int) + 1))
          have HR48 := hid (show ∀ q, R (nb s) (to q 0) k (to q 15) p48 from fun q => by rw [hp48]; exact (HR37.out q).trans (num_exp (Or.inl rfl) (by rw [HC47.out]; exact HK47.out)))
          have le48 : p48 ≤ s.size := by have := (HR48.out L.start).le; rw [hll] at this; exact this.2
          have HP48 := hid hp48
          clear hp48
          have hb101_47 : (((c47 : Int) != 101) && ((c47 : Int) != 69)) = false := by rcases hk47 with rfl | rfl <;> decide
          rcases hk47 with rfl | rfl
          all_goals
            have SN49 := hid (fun W hW => snext2 g s p48 v d m W hW)
            generalize hc49 : at_ (nb s) p48 = c49 at SN49
            have HC49 := hid hc49
            clear hc49
            go_wp2_with fail
            refine (SN49.out _ (by exact hb48)).mono ?_
            rintro e w49 ⟨rfl, hb49, ho49'⟩
            have ho49 := (ho48).trans ho49'
            clear SN49 ho49'
            by_cases hk49 : c49 = 43 ∨ c49 = 45
            · have HK49 := hid hk49
              obtain ⟨p50, hp50⟩ : ∃ p50, p50 = p48 + 1 := ⟨_, rfl⟩
              have c1_50 := (hb49).c1
              have f1_50 := (hb49).fr 1
              have x1_50 := wrap_oneS p48 (by omega)
              have hb50 := (hb49).at' p50 ((p48 : Int) + 1) (by omega)
              have ho50 := (ho49).set 1 (.int .i64 ((p48 : Int) + 1))
              have HR50 := hid (show ∀ q, R (nb s) (to q 0) k (to q 16) p50 from fun q => by rw [hp50]; exact (HR48.out q).trans (num_sign (by rw [HC49.out]; exact HK49.out)))
              have le50 : p50 ≤ s.size := by have := (HR50.out L.start).le; rw [hll] at this; exact this.2
              have HP50 := hid hp50
              clear hp50
              rcases hk49 with rfl | rfl
              all_goals
                go_wp2_with fail
                refine (sdigits_any g s p50 v d m _ (by exact hb50) le50 hs).mono ?_
                rintro e w51 ⟨p51, rfl, hb51, ho51', hdg51⟩
                have ho51 := (ho50).trans ho51'
                have le51 : p51 ≤ s.size := by have := hdg51.2.1; rw [hll] at this; exact this
                have DG51 := hid hdg51
                clear hdg51 ho51'
                go_wp2_with fail
                go_ret
                refine ⟨p51, decide (p50 < p51), rfl, hb51, ho51, fun q => ?_⟩
                rcases Nat.lt_or_ge p50 p51 with hlt51 | hge51
                · rw [decide_eq_true hlt51]
                  exact Goes.done (((HR50.out q).trans (num_expd (Or.inr rfl) hlt51 DG51.out.2.1 DG51.out.2.2.1)).like (num_end (Or.inr (Or.inr (Or.inr ⟨rfl, DG51.out.2.2.2⟩)))))
                · rw [decide_eq_false (show ¬ p50 < p51 by omega)]
                  have heq51 : p51 = p50 := by have := DG51.out.1; omega
                  exact Goes.fail _ (by rw [heq51]; exact HR50.out q) (by rw [heq51]; exact num_expd_none (Or.inr rfl) (by rw [hll]; exact le50) (by rw [← heq51]; exact DG51.out.2.2.2))
            · have hkN49 : ((c49 : Int) == 43) = false := by rw [beq_eq_false_iff_ne]; omega
              have hkM49 : ((c49 : Int) == 45) = false := by rw [beq_eq_false_iff_ne]; omega
              have HK49 := hid (show at_ (nb s) p48 ≠ 43 ∧ at_ (nb s) p48 ≠ 45 by rw [HC49.out]; omega)
              go_wp2_with fail
              refine (sdigits_any g s p48 v d m _ (by exact hb49) le48 hs).mono ?_
              rintro e w52 ⟨p52, rfl, hb52, ho52', hdg52⟩
              have ho52 := (ho49).trans ho52'
              have le52 : p52 ≤ s.size := by have := hdg52.2.1; rw [hll] at this; exact this
              have DG52 := hid hdg52
              clear hdg52 ho52'
              go_wp2_with fail
              go_ret
              refine ⟨p52, decide (p48 < p52), rfl, hb52, ho52, fun q => ?_⟩
              rcases Nat.lt_or_ge p48 p52 with hlt52 | hge52
              · rw [decide_eq_true hlt52]
                exact Goes.done (((HR48.out q).trans (num_expd (Or.inl rfl) hlt52 DG52.out.2.1 DG52.out.2.2.1)).like (num_end (Or.inr (Or.inr (Or.inr ⟨rfl, DG52.out.2.2.2⟩)))))
              · rw [decide_eq_false (show ¬ p48 < p52 by omega)]
                have heq52 : p52 = p48 := by have := DG52.out.1; omega
                exact Goes.fail _ (by rw [heq52]; exact HR48.out q) (by rw [heq52]; exact num_expd_none (Or.inl ⟨rfl, HK49.out.1, HK49.out.2⟩) (by rw [hll]; exact le48) (by rw [← heq52]; exact DG52.out.2.2.2))
        · have hkN47 : ((c47 : Int) != 101) = true := by rw [bne_iff_ne]; omega
          have hkM47 : ((c47 : Int) != 69) = true := by rw [bne_iff_ne]; omega
          have HK47 := hid (show at_ (nb s) p37 ≠ 101 ∧ at_ (nb s) p37 ≠ 69 by rw [HC47.out]; omega)
          go_wp2_with fail
          go_ret
          exact ⟨p37, true, rfl, hb47, ho47, fun q => Goes.done ((HR37.out q).like (num_end (Or.inl ⟨rfl, HK38.out, HK47.out.1, HK47.out.2⟩)))⟩
    · have hkN36 : ((c36 : Int) == 48) = false := by rw [beq_eq_false_iff_ne]; omega
      have HK36 := hid hk36
      go_wp2_with fail
      refine (sdigits_any g s k v d m _ (by exact hb36) hk hs).mono ?_
      rintro e w53 ⟨p53, rfl, hb53, ho53', hdg53⟩
      have ho53 := (ho36).trans ho53'
      have le53 : p53 ≤ s.size := by have := hdg53.2.1; rw [hll] at this; exact this
      have DG53 := hid hdg53
      clear hdg53 ho53'
      rcases Nat.lt_or_ge k p53 with hlt53 | hge53
      · have hdd53 : decide (k < p53) = true := decide_eq_true hlt53
        have HR53 := hid (show ∀ q, R (nb s) (to q 0) k (to q 12) p53 from fun q => (HR.out q).trans (num_int (Or.inl rfl) (by rw [HC36.out]; exact HK36.out) hlt53 DG53.out.2.1 DG53.out.2.2.1))
        have SN54 := hid (fun W hW => snext2 g s p53 v d m W hW)
        generalize hc54 : at_ (nb s) p53 = c54 at SN54
        have HC54 := hid hc54
        clear hc54
        go_wp2_with fail
        refine (SN54.out _ (by exact hb53)).mono ?_
        rintro e w54 ⟨rfl, hb54, ho54'⟩
        have ho54 := (ho53).trans ho54'
        clear SN54 ho54'
        by_cases hk54 : c54 = 46
        · have hkI54 : (c54 : Int) = 46 := by omega
          have HK54 := hid hk54
          obtain ⟨p55, hp55⟩ : ∃ p55, p55 = p53 + 1 := ⟨_, rfl⟩
          have c1_55 := (hb54).c1
          have f1_55 := (hb54).fr 1
          have x1_55 := wrap_oneS p53 (by omega)
          have hb55 := (hb54).at' p55 ((p53 : Int) + 1) (by omega)
          have ho55 := (ho54).set 1 (.int .i64 ((p53 : Int) + 1))
          have HR55 := hid (show ∀ q, R (nb s) (to q 0) k (to q 13) p55 from fun q => by rw [hp55]; exact (HR53.out q).trans (num_dot (Or.inr rfl) (by rw [HC54.out]; exact HK54.out)))
          have le55 : p55 ≤ s.size := by have := (HR55.out L.start).le; rw [hll] at this; exact this.2
          have HP55 := hid hp55
          clear hp55
          go_wp2_with fail
          refine (sdigits_any g s p55 v d m _ (by exact hb55) le55 hs).mono ?_
          rintro e w56 ⟨p56, rfl, hb56, ho56', hdg56⟩
          have ho56 := (ho55).trans ho56'
          have le56 : p56 ≤ s.size := by have := hdg56.2.1; rw [hll] at this; exact this
          have DG56 := hid hdg56
          clear hdg56 ho56'
          rcases Nat.lt_or_ge p55 p56 with hlt56 | hge56
          · have hdd56 : decide (p55 < p56) = true := decide_eq_true hlt56
            have HR56 := hid (show ∀ q, R (nb s) (to q 0) k (to q 14) p56 from fun q => (HR55.out q).trans (num_frac hlt56 DG56.out.2.1 DG56.out.2.2.1))
            have SN57 := hid (fun W hW => snext2 g s p56 v d m W hW)
            generalize hc57 : at_ (nb s) p56 = c57 at SN57
            have HC57 := hid hc57
            clear hc57
            go_wp2_with fail
            refine (SN57.out _ (by exact hb56)).mono ?_
            rintro e w57 ⟨rfl, hb57, ho57'⟩
            have ho57 := (ho56).trans ho57'
            clear SN57 ho57'
            by_cases hk57 : c57 = 101 ∨ c57 = 69
            · have HK57 := hid hk57
              obtain ⟨p58, hp58⟩ : ∃ p58, p58 = p56 + 1 := ⟨_, rfl⟩
              have c1_58 := (hb57).c1
              have f1_58 := (hb57).fr 1
              have x1_58 := wrap_oneS p56 (by omega)
              have hb58 := (hb57).at' p58 ((p56 : Int) + 1) (by omega)
              have ho58 := (ho57).set 1 (.int .i64 ((p56 : Int) + 1))
              have HR58 := hid (show ∀ q, R (nb s) (to q 0) k (to q 15) p58 from fun q => by rw [hp58]; exact (HR56.out q).trans (num_exp (Or.inr (Or.inr rfl)) (by rw [HC57.out]; exact HK57.out)))
              have le58 : p58 ≤ s.size := by have := (HR58.out L.start).le; rw [hll] at this; exact this.2
              have HP58 := hid hp58
              clear hp58
              have hb101_57 : (((c57 : Int) != 101) && ((c57 : Int) != 69)) = false := by rcases hk57 with rfl | rfl <;> decide
              rcases hk57 with rfl | rfl
              all_goals
                have SN59 := hid (fun W hW => snext2 g s p58 v d m W hW)
                generalize hc59 : at_ (nb s) p58 = c59 at SN59
                have HC59 := hid hc59
                clear hc59
                go_wp2_with fail
                refine (SN59.out _ (by exact hb58)).mono ?_
                rintro e w59 ⟨rfl, hb59, ho59'⟩
                have ho59 := (ho58).trans ho59'
                clear SN59 ho59'
                by_cases hk59 : c59 = 43 ∨ c59 = 45
                · have HK59 := hid hk59
                  obtain ⟨p60, hp60⟩ : ∃ p60, p60 = p58 + 1 := ⟨_, rfl⟩
                  have c1_60 := (hb59).c1
                  have f1_60 := (hb59).fr 1
                  have x1_60 := wrap_oneS p58 (by omega)
                  have hb60 := (hb59).at' p60 ((p58 : Int) + 1) (by omega)
                  have ho60 := (ho59).set 1 (.int .i64 ((p58 : Int) + 1))
                  have HR60 := hid (show ∀ q, R (nb s) (to q 0) k (to q 16) p60 from fun q => by rw [hp60]; exact (HR58.out q).trans (num_sign (by rw [HC59.out]; exact HK59.out)))
                  have le60 : p60 ≤ s.size := by have := (HR60.out L.start).le; rw [hll] at this; exact this.2
                  have HP60 := hid hp60
                  clear hp60
                  rcases hk59 with rfl | rfl
                  all_goals
                    go_wp2_with fail
                    refine (sdigits_any g s p60 v d m _ (by exact hb60) le60 hs).mono ?_
                    rintro e w61 ⟨p61, rfl, hb61, ho61', hdg61⟩
                    have ho61 := (ho60).trans ho61'
                    have le61 : p61 ≤ s.size := by have := hdg61.2.1; rw [hll] at this; exact this
                    have DG61 := hid hdg61
                    clear hdg61 ho61'
                    go_wp2_with fail
                    go_ret
                    refine ⟨p61, decide (p60 < p61), rfl, hb61, ho61, fun q => ?_⟩
                    rcases Nat.lt_or_ge p60 p61 with hlt61 | hge61
                    · rw [decide_eq_true hlt61]
                      exact Goes.done (((HR60.out q).trans (num_expd (Or.inr rfl) hlt61 DG61.out.2.1 DG61.out.2.2.1)).like (num_end (Or.inr (Or.inr (Or.inr ⟨rfl, DG61.out.2.2.2⟩)))))
                    · rw [decide_eq_false (show ¬ p60 < p61 by omega)]
                      have heq61 : p61 = p60 := by have := DG61.out.1; omega
                      exact Goes.fail _ (by rw [heq61]; exact HR60.out q) (by rw [heq61]; exact num_expd_none (Or.inr rfl) (by rw [hll]; exact le60) (by rw [← heq61]; exact DG61.out.2.2.2))
                · have hkN59 : ((c59 : Int) == 43) = false := by rw [beq_eq_false_iff_ne]; omega
                  have hkM59 : ((c59 : Int) == 45) = false := by rw [beq_eq_false_iff_ne]; omega
                  have HK59 := hid (show at_ (nb s) p58 ≠ 43 ∧ at_ (nb s) p58 ≠ 45 by rw [HC59.out]; omega)
                  go_wp2_with fail
                  refine (sdigits_any g s p58 v d m _ (by exact hb59) le58 hs).mono ?_
                  rintro e w62 ⟨p62, rfl, hb62, ho62', hdg62⟩
                  have ho62 := (ho59).trans ho62'
                  have le62 : p62 ≤ s.size := by have := hdg62.2.1; rw [hll] at this; exact this
                  have DG62 := hid hdg62
                  clear hdg62 ho62'
                  go_wp2_with fail
                  go_ret
                  refine ⟨p62, decide (p58 < p62), rfl, hb62, ho62, fun q => ?_⟩
                  rcases Nat.lt_or_ge p58 p62 with hlt62 | hge62
                  · rw [decide_eq_true hlt62]
                    exact Goes.done (((HR58.out q).trans (num_expd (Or.inl rfl) hlt62 DG62.out.2.1 DG62.out.2.2.1)).like (num_end (Or.inr (Or.inr (Or.inr ⟨rfl, DG62.out.2.2.2⟩)))))
                  · rw [decide_eq_false (show ¬ p58 < p62 by omega)]
                    have heq62 : p62 = p58 := by have := DG62.out.1; omega
                    exact Goes.fail _ (by rw [heq62]; exact HR58.out q) (by rw [heq62]; exact num_expd_none (Or.inl ⟨rfl, HK59.out.1, HK59.out.2⟩) (by rw [hll]; exact le58) (by rw [← heq62]; exact DG62.out.2.2.2))
            · have hkN57 : ((c57 : Int) != 101) = true := by rw [bne_iff_ne]; omega
              have hkM57 : ((c57 : Int) != 69) = true := by rw [bne_iff_ne]; omega
              have HK57 := hid (show at_ (nb s) p56 ≠ 101 ∧ at_ (nb s) p56 ≠ 69 by rw [HC57.out]; omega)
              go_wp2_with fail
              go_ret
              exact ⟨p56, true, rfl, hb57, ho57, fun q => Goes.done ((HR56.out q).like (num_end (Or.inr (Or.inr (Or.inl ⟨rfl, DG56.out.2.2.2, HK57.out.1, HK57.out.2⟩)))))⟩
          · have hdd56 : decide (p55 < p56) = false := decide_eq_false (by omega)
            have hdN56 : ¬ (p55 < p56) := by omega
            have heq56 : p56 = p55 := by have := DG56.out.1; omega
            go_wp2_with fail
            go_ret
            exact ⟨p56, false, rfl, hb56, ho56, fun q => Goes.fail _ (by rw [heq56]; exact HR55.out q) (by rw [heq56]; exact num_frac_none (by rw [hll]; exact le55) (by rw [← heq56]; exact DG56.out.2.2.2))⟩
        · have hkN54 : ((c54 : Int) == 46) = false := by rw [beq_eq_false_iff_ne]; omega
          have HK54 := hid (show at_ (nb s) p53 ≠ 46 by rw [HC54.out]; exact hk54)
          have SN63 := hid (fun W hW => snext2 g s p53 v d m W hW)
          generalize hc63 : at_ (nb s) p53 = c63 at SN63
          have HC63 := hid hc63
          clear hc63
          go_wp2_with fail
          refine (SN63.out _ (by exact hb54)).mono ?_
          rintro e w63 ⟨rfl, hb63, ho63'⟩
          have ho63 := (ho54).trans ho63'
          clear SN63 ho63'
          by_cases hk63 : c63 = 101 ∨ c63 = 69
          · have HK63 := hid hk63
            obtain ⟨p64, hp64⟩ : ∃ p64, p64 = p53 + 1 := ⟨_, rfl⟩
            have c1_64 := (hb63).c1
            have f1_64 := (hb63).fr 1
            have x1_64 := wrap_oneS p53 (by omega)
            have hb64 := (hb63).at' p64 ((p53 : Int) + 1) (by omega)
            have ho64 := (ho63).set 1 (.int .i64 ((p53 : Int) + 1))
            have HR64 := hid (show ∀ q, R (nb s) (to q 0) k (to q 15) p64 from fun q => by rw [hp64]; exact (HR53.out q).trans (num_exp (Or.inr (Or.inl rfl)) (by rw [HC63.out]; exact HK63.out)))
            have le64 : p64 ≤ s.size := by have := (HR64.out L.start).le; rw [hll] at this; exact this.2
            have HP64 := hid hp64
            clear hp64
            have hb101_63 : (((c63 : Int) != 101) && ((c63 : Int) != 69)) = false := by rcases hk63 with rfl | rfl <;> decide
            rcases hk63 with rfl | rfl
            all_goals
              have SN65 := hid (fun W hW => snext2 g s p64 v d m W hW)
              generalize hc65 : at_ (nb s) p64 = c65 at SN65
              have HC65 := hid hc65
              clear hc65
              go_wp2_with fail
              refine (SN65.out _ (by exact hb64)).mono ?_
              rintro e w65 ⟨rfl, hb65, ho65'⟩
              have ho65 := (ho64).trans ho65'
              clear SN65 ho65'
              by_cases hk65 : c65 = 43 ∨ c65 = 45
              · have HK65 := hid hk65
                obtain ⟨p66, hp66⟩ : ∃ p66, p66 = p64 + 1 := ⟨_, rfl⟩
                have c1_66 := (hb65).c1
                have f1_66 := (hb65).fr 1
                have x1_66 := wrap_oneS p64 (by omega)
                have hb66 := (hb65).at' p66 ((p64 : Int) + 1) (by omega)
                have ho66 := (ho65).set 1 (.int .i64 ((p64 : Int) + 1))
                have HR66 := hid (show ∀ q, R (nb s) (to q 0) k (to q 16) p66 from fun q => by rw [hp66]; exact (HR64.out q).trans (num_sign (by rw [HC65.out]; exact HK65.out)))
                have le66 : p66 ≤ s.size := by have := (HR66.out L.start).le; rw [hll] at this; exact this.2
                have HP66 := hid hp66
                clear hp66
                rcases hk65 with rfl | rfl
                all_goals
                  go_wp2_with fail
                  refine (sdigits_any g s p66 v d m _ (by exact hb66) le66 hs).mono ?_
                  rintro e w67 ⟨p67, rfl, hb67, ho67', hdg67⟩
                  have ho67 := (ho66).trans ho67'
                  have le67 : p67 ≤ s.size := by have := hdg67.2.1; rw [hll] at this; exact this
                  have DG67 := hid hdg67
                  clear hdg67 ho67'
                  go_wp2_with fail
                  go_ret
                  refine ⟨p67, decide (p66 < p67), rfl, hb67, ho67, fun q => ?_⟩
                  rcases Nat.lt_or_ge p66 p67 with hlt67 | hge67
                  · rw [decide_eq_true hlt67]
                    exact Goes.done (((HR66.out q).trans (num_expd (Or.inr rfl) hlt67 DG67.out.2.1 DG67.out.2.2.1)).like (num_end (Or.inr (Or.inr (Or.inr ⟨rfl, DG67.out.2.2.2⟩)))))
                  · rw [decide_eq_false (show ¬ p66 < p67 by omega)]
                    have heq67 : p67 = p66 := by have := DG67.out.1; omega
                    exact Goes.fail _ (by rw [heq67]; exact HR66.out q) (by rw [heq67]; exact num_expd_none (Or.inr rfl) (by rw [hll]; exact le66) (by rw [← heq67]; exact DG67.out.2.2.2))
              · have hkN65 : ((c65 : Int) == 43) = false := by rw [beq_eq_false_iff_ne]; omega
                have hkM65 : ((c65 : Int) == 45) = false := by rw [beq_eq_false_iff_ne]; omega
                have HK65 := hid (show at_ (nb s) p64 ≠ 43 ∧ at_ (nb s) p64 ≠ 45 by rw [HC65.out]; omega)
                go_wp2_with fail
                refine (sdigits_any g s p64 v d m _ (by exact hb65) le64 hs).mono ?_
                rintro e w68 ⟨p68, rfl, hb68, ho68', hdg68⟩
                have ho68 := (ho65).trans ho68'
                have le68 : p68 ≤ s.size := by have := hdg68.2.1; rw [hll] at this; exact this
                have DG68 := hid hdg68
                clear hdg68 ho68'
                go_wp2_with fail
                go_ret
                refine ⟨p68, decide (p64 < p68), rfl, hb68, ho68, fun q => ?_⟩
                rcases Nat.lt_or_ge p64 p68 with hlt68 | hge68
                · rw [decide_eq_true hlt68]
                  exact Goes.done (((HR64.out q).trans (num_expd (Or.inl rfl) hlt68 DG68.out.2.1 DG68.out.2.2.1)).like (num_end (Or.inr (Or.inr (Or.inr ⟨rfl, DG68.out.2.2.2⟩)))))
                · rw [decide_eq_false (show ¬ p64 < p68 by omega)]
                  have heq68 : p68 = p64 := by have := DG68.out.1; omega
                  exact Goes.fail _ (by rw [heq68]; exact HR64.out q) (by rw [heq68]; exact num_expd_none (Or.inl ⟨rfl, HK65.out.1, HK65.out.2⟩) (by rw [hll]; exact le64) (by rw [← heq68]; exact DG68.out.2.2.2))
          · have hkN63 : ((c63 : Int) != 101) = true := by rw [bne_iff_ne]; omega
            have hkM63 : ((c63 : Int) != 69) = true := by rw [bne_iff_ne]; omega
            have HK63 := hid (show at_ (nb s) p53 ≠ 101 ∧ at_ (nb s) p53 ≠ 69 by rw [HC63.out]; omega)
            go_wp2_with fail
            go_ret
            exact ⟨p53, true, rfl, hb63, ho63, fun q => Goes.done ((HR53.out q).like (num_end (Or.inr (Or.inl ⟨rfl, DG53.out.2.2.2, HK54.out, HK63.out.1, HK63.out.2⟩))))⟩
      · have hdd53 : decide (k < p53) = false := decide_eq_false (by omega)
        have hdN53 : ¬ (k < p53) := by omega
        have heq53 : p53 = k := by have := DG53.out.1; omega
        go_wp2_with fail
        go_ret
        exact ⟨p53, false, rfl, hb53, ho53, fun q => Goes.fail _ (by rw [heq53]; exact HR.out q) (by rw [heq53]; exact num_none (Or.inl ⟨rfl, HK1.out, hnumb⟩) (by rw [hll]; exact hk) (by rw [← heq53]; exact DG53.out.2.2.2))⟩

end Go.Proofs.YtacllonekidocaaDoor
