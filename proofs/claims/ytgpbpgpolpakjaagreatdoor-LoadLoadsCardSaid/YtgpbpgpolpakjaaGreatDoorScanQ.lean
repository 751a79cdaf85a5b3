/- Proof text. -/
import Derived.Test.YtgpbpgpolpakjaaGreatDoorScanP
import Derived.Test.YtgpbpgpolpakjaaGreatDoorAutoP
import Derived.Test.YtgpbpgpolpakjaaGreatDoorScanR
set_option maxHeartbeats 20000000
set_option linter.unusedVariables false
set_option linter.unusedSimpArgs false
set_option maxRecDepth 100000
namespace Go.Proofs.YtgpbpgpolpakjaaGreatDoor
open Go.RowKit Go.Shelf L
theorem zbb (g : Nat) (s : ByteArray) (k : Nat) (v : Value) (d m : Nat) (w : World) (hb : ScAt w g s k v d m) :
  Calls Tryz.prog 157 #[.pointer (some ⟨g, 0, none⟩)] w fun e w' => e = .returned (.int .u8 (at_ (nb s) k : Nat)) ∧ ScAt w' g s k v d m ∧ Sco g w w' :=
 (zfc g s k v d m w hb).mono fun e w' ⟨he, n, hn⟩ => ⟨he, by rw [hn]; exact hb.drewN n, by rw [hn]; exact (Sco.refl g w).drewN n⟩
def Num (l : List Nat) (k : Nat) (ok : Bool) (k' : Nat) : Prop := ∀ q, Goes l (to q 0) k ok (to q 5) k'
theorem zu5 (g : Nat) (s : ByteArray) (k : Nat) (v : Value) (d m : Nat) (w : World) (hb : ScAt w g s k v d m) (hk : k ≤ s.size) (hs : s.size ≤ 65536) (hnumb : numb (at_ (nb s) k)) :
  Calls Tryz.prog 188 #[.pointer (some ⟨g, 0, none⟩)] w fun e w' => ∃ k' ok, e = .returned (.bool ok) ∧ ScAt w' g s k' v d m ∧ Sco g w w' ∧ Num (nb s) k ok k' := by
 have hll := zf s
 have ho := Sco.refl g w
 have HR := hid (show ∀ q, R (nb s) (to q 0) k (to q 0) k from fun q => R.refl (by rw [hll]; exact hk))
 go_enter Tryz.func188, Tryz.ntmps188
 have SN1 := hid (fun W hW => zbb g s k v d m W hW)
 generalize hc1 : at_ (nb s) k = c1 at SN1
 have HC1 := hid hc1
 clear hc1
 go_wp2_with fail
 refine (SN1.out _ (by exact hb)).mono ?_
 rintro e w1 ⟨rfl, hb1, ho1'⟩
 have ho1 := (ho).trans ho1'
 clear SN1 ho1'
 by_cases hk1 : c1 = 45
 ·have hkI1 : (c1 : Int) = 45 := by omega
  have HK1 := hid hk1
  obtain ⟨p2, hp2⟩ : ∃ p2, p2 = k + 1 := ⟨_, rfl⟩
  have c1_2 := (hb1).c1
  have f1_2 := (hb1).fr 1
  have x1_2 := zg k (by omega)
  have hb2 := (hb1).at' p2 ((k : Int) + 1) (by omega)
  have ho2 := (ho1).set 1 (.int .i64 ((k : Int) + 1))
  have HR2 := hid (show ∀ q, R (nb s) (to q 0) k (to q 10) p2 from fun q => by rw [hp2]; exact (HR.out q).trans (zj0 (by rw [HC1.out]; exact HK1.out)))
  have le2 : p2 ≤ s.size := by have := (HR2.out L.start).le; rw [hll] at this; exact this.2
  have HP2 := hid hp2
  clear hp2
  have SN3 := hid (fun W hW => zbb g s p2 v d m W hW)
  generalize hc3 : at_ (nb s) p2 = c3 at SN3
  have HC3 := hid hc3
  clear hc3
  go_wp2_with fail
  refine (SN3.out _ (by exact hb2)).mono ?_
  rintro e w3 ⟨rfl, hb3, ho3'⟩
  have ho3 := (ho2).trans ho3'
  clear SN3 ho3'
  by_cases hk3 : c3 = 48
  ·have hkI3 : (c3 : Int) = 48 := by omega
   have HK3 := hid hk3
   obtain ⟨p4, hp4⟩ : ∃ p4, p4 = p2 + 1 := ⟨_, rfl⟩
   have c1_4 := (hb3).c1
   have f1_4 := (hb3).fr 1
   have x1_4 := zg p2 (by omega)
   have hb4 := (hb3).at' p4 ((p2 : Int) + 1) (by omega)
   have ho4 := (ho3).set 1 (.int .i64 ((p2 : Int) + 1))
   have HR4 := hid (show ∀ q, R (nb s) (to q 0) k (to q 11) p4 from fun q => by rw [hp4]; exact (HR2.out q).trans (zmc (Or.inr rfl) (by rw [HC3.out]; exact HK3.out)))
   have le4 : p4 ≤ s.size := by have := (HR4.out L.start).le; rw [hll] at this; exact this.2
   have HP4 := hid hp4
   clear hp4
   have SN5 := hid (fun W hW => zbb g s p4 v d m W hW)
   generalize hc5 : at_ (nb s) p4 = c5 at SN5
   have HC5 := hid hc5
   clear hc5
   go_wp2_with fail
   refine (SN5.out _ (by exact hb4)).mono ?_
   rintro e w5 ⟨rfl, hb5, ho5'⟩
   have ho5 := (ho4).trans ho5'
   clear SN5 ho5'
   by_cases hk5 : c5 = 46
   ·have hkI5 : (c5 : Int) = 46 := by omega
    have HK5 := hid hk5
    obtain ⟨p6, hp6⟩ : ∃ p6, p6 = p4 + 1 := ⟨_, rfl⟩
    have c1_6 := (hb5).c1
    have f1_6 := (hb5).fr 1
    have x1_6 := zg p4 (by omega)
    have hb6 := (hb5).at' p6 ((p4 : Int) + 1) (by omega)
    have ho6 := (ho5).set 1 (.int .i64 ((p4 : Int) + 1))
    have HR6 := hid (show ∀ q, R (nb s) (to q 0) k (to q 13) p6 from fun q => by rw [hp6]; exact (HR4.out q).trans (zh5 (Or.inl rfl) (by rw [HC5.out]; exact HK5.out)))
    have le6 : p6 ≤ s.size := by have := (HR6.out L.start).le; rw [hll] at this; exact this.2
    have HP6 := hid hp6
    clear hp6
    go_wp2_with fail
    refine (zai g s p6 v d m _ (by exact hb6) le6 hs).mono ?_
    rintro e w7 ⟨p7, rfl, hb7, ho7', hdg7⟩
    have ho7 := (ho6).trans ho7'
    have le7 : p7 ≤ s.size := by have := hdg7.2.1; rw [hll] at this; exact this
    have DG7 := hid hdg7
    clear hdg7 ho7'
    rcases Nat.lt_or_ge p6 p7 with hlt7 | hge7
    ·have hdd7 : decide (p6 < p7) = true := decide_eq_true hlt7
     have HR7 := hid (show ∀ q, R (nb s) (to q 0) k (to q 14) p7 from fun q => (HR6.out q).trans (zg2 hlt7 DG7.out.2.1 DG7.out.2.2.1))
     have SN8 := hid (fun W hW => zbb g s p7 v d m W hW)
     generalize hc8 : at_ (nb s) p7 = c8 at SN8
     have HC8 := hid hc8
     clear hc8
     go_wp2_with fail
     refine (SN8.out _ (by exact hb7)).mono ?_
     rintro e w8 ⟨rfl, hb8, ho8'⟩
     have ho8 := (ho7).trans ho8'
     clear SN8 ho8'
     by_cases hk8 : c8 = 101 ∨ c8 = 69
     ·have HK8 := hid hk8
      obtain ⟨p9, hp9⟩ : ∃ p9, p9 = p7 + 1 := ⟨_, rfl⟩
      have c1_9 := (hb8).c1
      have f1_9 := (hb8).fr 1
      have x1_9 := zg p7 (by omega)
      have hb9 := (hb8).at' p9 ((p7 : Int) + 1) (by omega)
      have ho9 := (ho8).set 1 (.int .i64 ((p7 : Int) + 1))
      have HR9 := hid (show ∀ q, R (nb s) (to q 0) k (to q 15) p9 from fun q => by rw [hp9]; exact (HR7.out q).trans (zei (Or.inr (Or.inr rfl)) (by rw [HC8.out]; exact HK8.out)))
      have le9 : p9 ≤ s.size := by have := (HR9.out L.start).le; rw [hll] at this; exact this.2
      have HP9 := hid hp9
      clear hp9
      have hb101_8 : (((c8 : Int) != 101) && ((c8 : Int) != 69)) = false := by rcases hk8 with rfl | rfl <;> decide
      rcases hk8 with rfl | rfl
      all_goals
       have SN10 := hid (fun W hW => zbb g s p9 v d m W hW)
       generalize hc10 : at_ (nb s) p9 = c10 at SN10
       have HC10 := hid hc10
       clear hc10
       go_wp2_with fail
       refine (SN10.out _ (by exact hb9)).mono ?_
       rintro e w10 ⟨rfl, hb10, ho10'⟩
       have ho10 := (ho9).trans ho10'
       clear SN10 ho10'
       by_cases hk10 : c10 = 43 ∨ c10 = 45
       ·have HK10 := hid hk10
        obtain ⟨p11, hp11⟩ : ∃ p11, p11 = p9 + 1 := ⟨_, rfl⟩
        have c1_11 := (hb10).c1
        have f1_11 := (hb10).fr 1
        have x1_11 := zg p9 (by omega)
        have hb11 := (hb10).at' p11 ((p9 : Int) + 1) (by omega)
        have ho11 := (ho10).set 1 (.int .i64 ((p9 : Int) + 1))
        have HR11 := hid (show ∀ q, R (nb s) (to q 0) k (to q 16) p11 from fun q => by rw [hp11]; exact (HR9.out q).trans (zdn (by rw [HC10.out]; exact HK10.out)))
        have le11 : p11 ≤ s.size := by have := (HR11.out L.start).le; rw [hll] at this; exact this.2
        have HP11 := hid hp11
        clear hp11
        rcases hk10 with rfl | rfl
        all_goals
         go_wp2_with fail
         refine (zai g s p11 v d m _ (by exact hb11) le11 hs).mono ?_
         rintro e w12 ⟨p12, rfl, hb12, ho12', hdg12⟩
         have ho12 := (ho11).trans ho12'
         have le12 : p12 ≤ s.size := by have := hdg12.2.1; rw [hll] at this; exact this
         have DG12 := hid hdg12
         clear hdg12 ho12'
         go_wp2_with fail
         go_ret
         refine ⟨p12, decide (p11 < p12), rfl, hb12, ho12, fun q => ?_⟩
         rcases Nat.lt_or_ge p11 p12 with hlt12 | hge12
         ·rw [decide_eq_true hlt12]
          exact Goes.done (((HR11.out q).trans (zbp (Or.inr rfl) hlt12 DG12.out.2.1 DG12.out.2.2.1)).like (za2 (Or.inr (Or.inr (Or.inr ⟨rfl, DG12.out.2.2.2⟩)))))
         ·rw [decide_eq_false (show ¬ p11 < p12 by omega)]
          have heq12 : p12 = p11 := by have := DG12.out.1; omega
          exact Goes.fail _ (by rw [heq12]; exact HR11.out q) (by rw [heq12]; exact zal (Or.inr rfl) (by rw [hll]; exact le11) (by rw [← heq12]; exact DG12.out.2.2.2))
       ·have hkN10 : ((c10 : Int) == 43) = false := by rw [beq_eq_false_iff_ne]; omega
        have hkM10 : ((c10 : Int) == 45) = false := by rw [beq_eq_false_iff_ne]; omega
        have HK10 := hid (show at_ (nb s) p9 ≠ 43 ∧ at_ (nb s) p9 ≠ 45 by rw [HC10.out]; omega)
        go_wp2_with fail
        refine (zai g s p9 v d m _ (by exact hb10) le9 hs).mono ?_
        rintro e w13 ⟨p13, rfl, hb13, ho13', hdg13⟩
        have ho13 := (ho10).trans ho13'
        have le13 : p13 ≤ s.size := by have := hdg13.2.1; rw [hll] at this; exact this
        have DG13 := hid hdg13
        clear hdg13 ho13'
        go_wp2_with fail
        go_ret
        refine ⟨p13, decide (p9 < p13), rfl, hb13, ho13, fun q => ?_⟩
        rcases Nat.lt_or_ge p9 p13 with hlt13 | hge13
        ·rw [decide_eq_true hlt13]
         exact Goes.done (((HR9.out q).trans (zbp (Or.inl rfl) hlt13 DG13.out.2.1 DG13.out.2.2.1)).like (za2 (Or.inr (Or.inr (Or.inr ⟨rfl, DG13.out.2.2.2⟩)))))
        ·rw [decide_eq_false (show ¬ p9 < p13 by omega)]
         have heq13 : p13 = p9 := by have := DG13.out.1; omega
         exact Goes.fail _ (by rw [heq13]; exact HR9.out q) (by rw [heq13]; exact zal (Or.inl ⟨rfl, HK10.out.1, HK10.out.2⟩) (by rw [hll]; exact le9) (by rw [← heq13]; exact DG13.out.2.2.2))
     ·have hkN8 : ((c8 : Int) != 101) = true := by rw [bne_iff_ne]; omega
      have hkM8 : ((c8 : Int) != 69) = true := by rw [bne_iff_ne]; omega
      have HK8 := hid (show at_ (nb s) p7 ≠ 101 ∧ at_ (nb s) p7 ≠ 69 by rw [HC8.out]; omega)
      go_wp2_with fail
      go_ret
      exact ⟨p7, true, rfl, hb8, ho8, fun q => Goes.done ((HR7.out q).like (za2 (Or.inr (Or.inr (Or.inl ⟨rfl, DG7.out.2.2.2, HK8.out.1, HK8.out.2⟩)))))⟩
    ·have hdd7 : decide (p6 < p7) = false := decide_eq_false (by omega)
     have hdN7 : ¬ (p6 < p7) := by omega
     have heq7 : p7 = p6 := by have := DG7.out.1; omega
     go_wp2_with fail
     go_ret
     exact ⟨p7, false, rfl, hb7, ho7, fun q => Goes.fail _ (by rw [heq7]; exact HR6.out q) (by rw [heq7]; exact zds (by rw [hll]; exact le6) (by rw [← heq7]; exact DG7.out.2.2.2))⟩
   ·have hkN5 : ((c5 : Int) == 46) = false := by rw [beq_eq_false_iff_ne]; omega
    have HK5 := hid (show at_ (nb s) p4 ≠ 46 by rw [HC5.out]; exact hk5)
    have SN14 := hid (fun W hW => zbb g s p4 v d m W hW)
    generalize hc14 : at_ (nb s) p4 = c14 at SN14
    have HC14 := hid hc14
    clear hc14
    go_wp2_with fail
    refine (SN14.out _ (by exact hb5)).mono ?_
    rintro e w14 ⟨rfl, hb14, ho14'⟩
    have ho14 := (ho5).trans ho14'
    clear SN14 ho14'
    by_cases hk14 : c14 = 101 ∨ c14 = 69
    ·have HK14 := hid hk14
     obtain ⟨p15, hp15⟩ : ∃ p15, p15 = p4 + 1 := ⟨_, rfl⟩
     have c1_15 := (hb14).c1
     have f1_15 := (hb14).fr 1
     have x1_15 := zg p4 (by omega)
     have hb15 := (hb14).at' p15 ((p4 : Int) + 1) (by omega)
     have ho15 := (ho14).set 1 (.int .i64 ((p4 : Int) + 1))
     have HR15 := hid (show ∀ q, R (nb s) (to q 0) k (to q 15) p15 from fun q => by rw [hp15]; exact (HR4.out q).trans (zei (Or.inl rfl) (by rw [HC14.out]; exact HK14.out)))
     have le15 : p15 ≤ s.size := by have := (HR15.out L.start).le; rw [hll] at this; exact this.2
     have HP15 := hid hp15
     clear hp15
     have hb101_14 : (((c14 : Int) != 101) && ((c14 : Int) != 69)) = false := by rcases hk14 with rfl | rfl <;> decide
     rcases hk14 with rfl | rfl
     all_goals
      have SN16 := hid (fun W hW => zbb g s p15 v d m W hW)
      generalize hc16 : at_ (nb s) p15 = c16 at SN16
      have HC16 := hid hc16
      clear hc16
      go_wp2_with fail
      refine (SN16.out _ (by exact hb15)).mono ?_
      rintro e w16 ⟨rfl, hb16, ho16'⟩
      have ho16 := (ho15).trans ho16'
      clear SN16 ho16'
      by_cases hk16 : c16 = 43 ∨ c16 = 45
      ·have HK16 := hid hk16
       obtain ⟨p17, hp17⟩ : ∃ p17, p17 = p15 + 1 := ⟨_, rfl⟩
       have c1_17 := (hb16).c1
       have f1_17 := (hb16).fr 1
       have x1_17 := zg p15 (by omega)
       have hb17 := (hb16).at' p17 ((p15 : Int) + 1) (by omega)
       have ho17 := (ho16).set 1 (.int .i64 ((p15 : Int) + 1))
       have HR17 := hid (show ∀ q, R (nb s) (to q 0) k (to q 16) p17 from fun q => by rw [hp17]; exact (HR15.out q).trans (zdn (by rw [HC16.out]; exact HK16.out)))
       have le17 : p17 ≤ s.size := by have := (HR17.out L.start).le; rw [hll] at this; exact this.2
       have HP17 := hid hp17
       clear hp17
       rcases hk16 with rfl | rfl
       all_goals
        go_wp2_with fail
        refine (zai g s p17 v d m _ (by exact hb17) le17 hs).mono ?_
        rintro e w18 ⟨p18, rfl, hb18, ho18', hdg18⟩
        have ho18 := (ho17).trans ho18'
        have le18 : p18 ≤ s.size := by have := hdg18.2.1; rw [hll] at this; exact this
        have DG18 := hid hdg18
        clear hdg18 ho18'
        go_wp2_with fail
        go_ret
        refine ⟨p18, decide (p17 < p18), rfl, hb18, ho18, fun q => ?_⟩
        rcases Nat.lt_or_ge p17 p18 with hlt18 | hge18
        ·rw [decide_eq_true hlt18]
         exact Goes.done (((HR17.out q).trans (zbp (Or.inr rfl) hlt18 DG18.out.2.1 DG18.out.2.2.1)).like (za2 (Or.inr (Or.inr (Or.inr ⟨rfl, DG18.out.2.2.2⟩)))))
        ·rw [decide_eq_false (show ¬ p17 < p18 by omega)]
         have heq18 : p18 = p17 := by have := DG18.out.1; omega
         exact Goes.fail _ (by rw [heq18]; exact HR17.out q) (by rw [heq18]; exact zal (Or.inr rfl) (by rw [hll]; exact le17) (by rw [← heq18]; exact DG18.out.2.2.2))
      ·have hkN16 : ((c16 : Int) == 43) = false := by rw [beq_eq_false_iff_ne]; omega
       have hkM16 : ((c16 : Int) == 45) = false := by rw [beq_eq_false_iff_ne]; omega
       have HK16 := hid (show at_ (nb s) p15 ≠ 43 ∧ at_ (nb s) p15 ≠ 45 by rw [HC16.out]; omega)
       go_wp2_with fail
       refine (zai g s p15 v d m _ (by exact hb16) le15 hs).mono ?_
       rintro e w19 ⟨p19, rfl, hb19, ho19', hdg19⟩
       have ho19 := (ho16).trans ho19'
       have le19 : p19 ≤ s.size := by have := hdg19.2.1; rw [hll] at this; exact this
       have DG19 := hid hdg19
       clear hdg19 ho19'
       go_wp2_with fail
       go_ret
       refine ⟨p19, decide (p15 < p19), rfl, hb19, ho19, fun q => ?_⟩
       rcases Nat.lt_or_ge p15 p19 with hlt19 | hge19
       ·rw [decide_eq_true hlt19]
        exact Goes.done (((HR15.out q).trans (zbp (Or.inl rfl) hlt19 DG19.out.2.1 DG19.out.2.2.1)).like (za2 (Or.inr (Or.inr (Or.inr ⟨rfl, DG19.out.2.2.2⟩)))))
       ·rw [decide_eq_false (show ¬ p15 < p19 by omega)]
        have heq19 : p19 = p15 := by have := DG19.out.1; omega
        exact Goes.fail _ (by rw [heq19]; exact HR15.out q) (by rw [heq19]; exact zal (Or.inl ⟨rfl, HK16.out.1, HK16.out.2⟩) (by rw [hll]; exact le15) (by rw [← heq19]; exact DG19.out.2.2.2))
    ·have hkN14 : ((c14 : Int) != 101) = true := by rw [bne_iff_ne]; omega
     have hkM14 : ((c14 : Int) != 69) = true := by rw [bne_iff_ne]; omega
     have HK14 := hid (show at_ (nb s) p4 ≠ 101 ∧ at_ (nb s) p4 ≠ 69 by rw [HC14.out]; omega)
     go_wp2_with fail
     go_ret
     exact ⟨p4, true, rfl, hb14, ho14, fun q => Goes.done ((HR4.out q).like (za2 (Or.inl ⟨rfl, HK5.out, HK14.out.1, HK14.out.2⟩)))⟩
  ·have hkN3 : ((c3 : Int) == 48) = false := by rw [beq_eq_false_iff_ne]; omega
   have HK3 := hid hk3
   go_wp2_with fail
   refine (zai g s p2 v d m _ (by exact hb3) le2 hs).mono ?_
   rintro e w20 ⟨p20, rfl, hb20, ho20', hdg20⟩
   have ho20 := (ho3).trans ho20'
   have le20 : p20 ≤ s.size := by have := hdg20.2.1; rw [hll] at this; exact this
   have DG20 := hid hdg20
   clear hdg20 ho20'
   rcases Nat.lt_or_ge p2 p20 with hlt20 | hge20
   ·have hdd20 : decide (p2 < p20) = true := decide_eq_true hlt20
    have HR20 := hid (show ∀ q, R (nb s) (to q 0) k (to q 12) p20 from fun q => (HR2.out q).trans (zom (Or.inr rfl) (by rw [HC3.out]; exact HK3.out) hlt20 DG20.out.2.1 DG20.out.2.2.1))
    have SN21 := hid (fun W hW => zbb g s p20 v d m W hW)
    generalize hc21 : at_ (nb s) p20 = c21 at SN21
    have HC21 := hid hc21
    clear hc21
    go_wp2_with fail
    refine (SN21.out _ (by exact hb20)).mono ?_
    rintro e w21 ⟨rfl, hb21, ho21'⟩
    have ho21 := (ho20).trans ho21'
    clear SN21 ho21'
    by_cases hk21 : c21 = 46
    ·have hkI21 : (c21 : Int) = 46 := by omega
     have HK21 := hid hk21
     obtain ⟨p22, hp22⟩ : ∃ p22, p22 = p20 + 1 := ⟨_, rfl⟩
     have c1_22 := (hb21).c1
     have f1_22 := (hb21).fr 1
     have x1_22 := zg p20 (by omega)
     have hb22 := (hb21).at' p22 ((p20 : Int) + 1) (by omega)
     have ho22 := (ho21).set 1 (.int .i64 ((p20 : Int) + 1))
     have HR22 := hid (show ∀ q, R (nb s) (to q 0) k (to q 13) p22 from fun q => by rw [hp22]; exact (HR20.out q).trans (zh5 (Or.inr rfl) (by rw [HC21.out]; exact HK21.out)))
     have le22 : p22 ≤ s.size := by have := (HR22.out L.start).le; rw [hll] at this; exact this.2
     have HP22 := hid hp22
     clear hp22
     go_wp2_with fail
     refine (zai g s p22 v d m _ (by exact hb22) le22 hs).mono ?_
     rintro e w23 ⟨p23, rfl, hb23, ho23', hdg23⟩
     have ho23 := (ho22).trans ho23'
     have le23 : p23 ≤ s.size := by have := hdg23.2.1; rw [hll] at this; exact this
     have DG23 := hid hdg23
     clear hdg23 ho23'
     rcases Nat.lt_or_ge p22 p23 with hlt23 | hge23
     ·have hdd23 : decide (p22 < p23) = true := decide_eq_true hlt23
      have HR23 := hid (show ∀ q, R (nb s) (to q 0) k (to q 14) p23 from fun q => (HR22.out q).trans (zg2 hlt23 DG23.out.2.1 DG23.out.2.2.1))
      have SN24 := hid (fun W hW => zbb g s p23 v d m W hW)
      generalize hc24 : at_ (nb s) p23 = c24 at SN24
      have HC24 := hid hc24
      clear hc24
      go_wp2_with fail
      refine (SN24.out _ (by exact hb23)).mono ?_
      rintro e w24 ⟨rfl, hb24, ho24'⟩
      have ho24 := (ho23).trans ho24'
      clear SN24 ho24'
      by_cases hk24 : c24 = 101 ∨ c24 = 69
      ·have HK24 := hid hk24
       obtain ⟨p25, hp25⟩ : ∃ p25, p25 = p23 + 1 := ⟨_, rfl⟩
       have c1_25 := (hb24).c1
       have f1_25 := (hb24).fr 1
       have x1_25 := zg p23 (by omega)
       have hb25 := (hb24).at' p25 ((p23 : Int) + 1) (by omega)
       have ho25 := (ho24).set 1 (.int .i64 ((p23 : Int) + 1))
       have HR25 := hid (show ∀ q, R (nb s) (to q 0) k (to q 15) p25 from fun q => by rw [hp25]; exact (HR23.out q).trans (zei (Or.inr (Or.inr rfl)) (by rw [HC24.out]; exact HK24.out)))
       have le25 : p25 ≤ s.size := by have := (HR25.out L.start).le; rw [hll] at this; exact this.2
       have HP25 := hid hp25
       clear hp25
       have hb101_24 : (((c24 : Int) != 101) && ((c24 : Int) != 69)) = false := by rcases hk24 with rfl | rfl <;> decide
       rcases hk24 with rfl | rfl
       all_goals
        have SN26 := hid (fun W hW => zbb g s p25 v d m W hW)
        generalize hc26 : at_ (nb s) p25 = c26 at SN26
        have HC26 := hid hc26
        clear hc26
        go_wp2_with fail
        refine (SN26.out _ (by exact hb25)).mono ?_
        rintro e w26 ⟨rfl, hb26, ho26'⟩
        have ho26 := (ho25).trans ho26'
        clear SN26 ho26'
        by_cases hk26 : c26 = 43 ∨ c26 = 45
        ·have HK26 := hid hk26
         obtain ⟨p27, hp27⟩ : ∃ p27, p27 = p25 + 1 := ⟨_, rfl⟩
         have c1_27 := (hb26).c1
         have f1_27 := (hb26).fr 1
         have x1_27 := zg p25 (by omega)
         have hb27 := (hb26).at' p27 ((p25 : Int) + 1) (by omega)
         have ho27 := (ho26).set 1 (.int .i64 ((p25 : Int) + 1))
         have HR27 := hid (show ∀ q, R (nb s) (to q 0) k (to q 16) p27 from fun q => by rw [hp27]; exact (HR25.out q).trans (zdn (by rw [HC26.out]; exact HK26.out)))
         have le27 : p27 ≤ s.size := by have := (HR27.out L.start).le; rw [hll] at this; exact this.2
         have HP27 := hid hp27
         clear hp27
         rcases hk26 with rfl | rfl
         all_goals
          go_wp2_with fail
          refine (zai g s p27 v d m _ (by exact hb27) le27 hs).mono ?_
          rintro e w28 ⟨p28, rfl, hb28, ho28', hdg28⟩
          have ho28 := (ho27).trans ho28'
          have le28 : p28 ≤ s.size := by have := hdg28.2.1; rw [hll] at this; exact this
          have DG28 := hid hdg28
          clear hdg28 ho28'
          go_wp2_with fail
          go_ret
          refine ⟨p28, decide (p27 < p28), rfl, hb28, ho28, fun q => ?_⟩
          rcases Nat.lt_or_ge p27 p28 with hlt28 | hge28
          ·rw [decide_eq_true hlt28]
           exact Goes.done (((HR27.out q).trans (zbp (Or.inr rfl) hlt28 DG28.out.2.1 DG28.out.2.2.1)).like (za2 (Or.inr (Or.inr (Or.inr ⟨rfl, DG28.out.2.2.2⟩)))))
          ·rw [decide_eq_false (show ¬ p27 < p28 by omega)]
           have heq28 : p28 = p27 := by have := DG28.out.1; omega
           exact Goes.fail _ (by rw [heq28]; exact HR27.out q) (by rw [heq28]; exact zal (Or.inr rfl) (by rw [hll]; exact le27) (by rw [← heq28]; exact DG28.out.2.2.2))
        ·have hkN26 : ((c26 : Int) == 43) = false := by rw [beq_eq_false_iff_ne]; omega
         have hkM26 : ((c26 : Int) == 45) = false := by rw [beq_eq_false_iff_ne]; omega
         have HK26 := hid (show at_ (nb s) p25 ≠ 43 ∧ at_ (nb s) p25 ≠ 45 by rw [HC26.out]; omega)
         go_wp2_with fail
         refine (zai g s p25 v d m _ (by exact hb26) le25 hs).mono ?_
         rintro e w29 ⟨p29, rfl, hb29, ho29', hdg29⟩
         have ho29 := (ho26).trans ho29'
         have le29 : p29 ≤ s.size := by have := hdg29.2.1; rw [hll] at this; exact this
         have DG29 := hid hdg29
         clear hdg29 ho29'
         go_wp2_with fail
         go_ret
         refine ⟨p29, decide (p25 < p29), rfl, hb29, ho29, fun q => ?_⟩
         rcases Nat.lt_or_ge p25 p29 with hlt29 | hge29
         ·rw [decide_eq_true hlt29]
          exact Goes.done (((HR25.out q).trans (zbp (Or.inl rfl) hlt29 DG29.out.2.1 DG29.out.2.2.1)).like (za2 (Or.inr (Or.inr (Or.inr ⟨rfl, DG29.out.2.2.2⟩)))))
         ·rw [decide_eq_false (show ¬ p25 < p29 by omega)]
          have heq29 : p29 = p25 := by have := DG29.out.1; omega
          exact Goes.fail _ (by rw [heq29]; exact HR25.out q) (by rw [heq29]; exact zal (Or.inl ⟨rfl, HK26.out.1, HK26.out.2⟩) (by rw [hll]; exact le25) (by rw [← heq29]; exact DG29.out.2.2.2))
      ·have hkN24 : ((c24 : Int) != 101) = true := by rw [bne_iff_ne]; omega
       have hkM24 : ((c24 : Int) != 69) = true := by rw [bne_iff_ne]; omega
       have HK24 := hid (show at_ (nb s) p23 ≠ 101 ∧ at_ (nb s) p23 ≠ 69 by rw [HC24.out]; omega)
       go_wp2_with fail
       go_ret
       exact ⟨p23, true, rfl, hb24, ho24, fun q => Goes.done ((HR23.out q).like (za2 (Or.inr (Or.inr (Or.inl ⟨rfl, DG23.out.2.2.2, HK24.out.1, HK24.out.2⟩)))))⟩
     ·have hdd23 : decide (p22 < p23) = false := decide_eq_false (by omega)
      have hdN23 : ¬ (p22 < p23) := by omega
      have heq23 : p23 = p22 := by have := DG23.out.1; omega
      go_wp2_with fail
      go_ret
      exact ⟨p23, false, rfl, hb23, ho23, fun q => Goes.fail _ (by rw [heq23]; exact HR22.out q) (by rw [heq23]; exact zds (by rw [hll]; exact le22) (by rw [← heq23]; exact DG23.out.2.2.2))⟩
    ·have hkN21 : ((c21 : Int) == 46) = false := by rw [beq_eq_false_iff_ne]; omega
     have HK21 := hid (show at_ (nb s) p20 ≠ 46 by rw [HC21.out]; exact hk21)
     have SN30 := hid (fun W hW => zbb g s p20 v d m W hW)
     generalize hc30 : at_ (nb s) p20 = c30 at SN30
     have HC30 := hid hc30
     clear hc30
     go_wp2_with fail
     refine (SN30.out _ (by exact hb21)).mono ?_
     rintro e w30 ⟨rfl, hb30, ho30'⟩
     have ho30 := (ho21).trans ho30'
     clear SN30 ho30'
     by_cases hk30 : c30 = 101 ∨ c30 = 69
     ·have HK30 := hid hk30
      obtain ⟨p31, hp31⟩ : ∃ p31, p31 = p20 + 1 := ⟨_, rfl⟩
      have c1_31 := (hb30).c1
      have f1_31 := (hb30).fr 1
      have x1_31 := zg p20 (by omega)
      have hb31 := (hb30).at' p31 ((p20 : Int) + 1) (by omega)
      have ho31 := (ho30).set 1 (.int .i64 ((p20 : Int) + 1))
      have HR31 := hid (show ∀ q, R (nb s) (to q 0) k (to q 15) p31 from fun q => by rw [hp31]; exact (HR20.out q).trans (zei (Or.inr (Or.inl rfl)) (by rw [HC30.out]; exact HK30.out)))
      have le31 : p31 ≤ s.size := by have := (HR31.out L.start).le; rw [hll] at this; exact this.2
      have HP31 := hid hp31
      clear hp31
      have hb101_30 : (((c30 : Int) != 101) && ((c30 : Int) != 69)) = false := by rcases hk30 with rfl | rfl <;> decide
      rcases hk30 with rfl | rfl
      all_goals
       have SN32 := hid (fun W hW => zbb g s p31 v d m W hW)
       generalize hc32 : at_ (nb s) p31 = c32 at SN32
       have HC32 := hid hc32
       clear hc32
       go_wp2_with fail
       refine (SN32.out _ (by exact hb31)).mono ?_
       rintro e w32 ⟨rfl, hb32, ho32'⟩
       have ho32 := (ho31).trans ho32'
       clear SN32 ho32'
       by_cases hk32 : c32 = 43 ∨ c32 = 45
       ·have HK32 := hid hk32
        obtain ⟨p33, hp33⟩ : ∃ p33, p33 = p31 + 1 := ⟨_, rfl⟩
        have c1_33 := (hb32).c1
        have f1_33 := (hb32).fr 1
        have x1_33 := zg p31 (by omega)
        have hb33 := (hb32).at' p33 ((p31 : Int) + 1) (by omega)
        have ho33 := (ho32).set 1 (.int .i64 ((p31 : Int) + 1))
        have HR33 := hid (show ∀ q, R (nb s) (to q 0) k (to q 16) p33 from fun q => by rw [hp33]; exact (HR31.out q).trans (zdn (by rw [HC32.out]; exact HK32.out)))
        have le33 : p33 ≤ s.size := by have := (HR33.out L.start).le; rw [hll] at this; exact this.2
        have HP33 := hid hp33
        clear hp33
        rcases hk32 with rfl | rfl
        all_goals
         go_wp2_with fail
         refine (zai g s p33 v d m _ (by exact hb33) le33 hs).mono ?_
         rintro e w34 ⟨p34, rfl, hb34, ho34', hdg34⟩
         have ho34 := (ho33).trans ho34'
         have le34 : p34 ≤ s.size := by have := hdg34.2.1; rw [hll] at this; exact this
         have DG34 := hid hdg34
         clear hdg34 ho34'
         go_wp2_with fail
         go_ret
         refine ⟨p34, decide (p33 < p34), rfl, hb34, ho34, fun q => ?_⟩
         rcases Nat.lt_or_ge p33 p34 with hlt34 | hge34
         ·rw [decide_eq_true hlt34]
          exact Goes.done (((HR33.out q).trans (zbp (Or.inr rfl) hlt34 DG34.out.2.1 DG34.out.2.2.1)).like (za2 (Or.inr (Or.inr (Or.inr ⟨rfl, DG34.out.2.2.2⟩)))))
         ·rw [decide_eq_false (show ¬ p33 < p34 by omega)]
          have heq34 : p34 = p33 := by have := DG34.out.1; omega
          exact Goes.fail _ (by rw [heq34]; exact HR33.out q) (by rw [heq34]; exact zal (Or.inr rfl) (by rw [hll]; exact le33) (by rw [← heq34]; exact DG34.out.2.2.2))
       ·have hkN32 : ((c32 : Int) == 43) = false := by rw [beq_eq_false_iff_ne]; omega
        have hkM32 : ((c32 : Int) == 45) = false := by rw [beq_eq_false_iff_ne]; omega
        have HK32 := hid (show at_ (nb s) p31 ≠ 43 ∧ at_ (nb s) p31 ≠ 45 by rw [HC32.out]; omega)
        go_wp2_with fail
        refine (zai g s p31 v d m _ (by exact hb32) le31 hs).mono ?_
        rintro e w35 ⟨p35, rfl, hb35, ho35', hdg35⟩
        have ho35 := (ho32).trans ho35'
        have le35 : p35 ≤ s.size := by have := hdg35.2.1; rw [hll] at this; exact this
        have DG35 := hid hdg35
        clear hdg35 ho35'
        go_wp2_with fail
        go_ret
        refine ⟨p35, decide (p31 < p35), rfl, hb35, ho35, fun q => ?_⟩
        rcases Nat.lt_or_ge p31 p35 with hlt35 | hge35
        ·rw [decide_eq_true hlt35]
         exact Goes.done (((HR31.out q).trans (zbp (Or.inl rfl) hlt35 DG35.out.2.1 DG35.out.2.2.1)).like (za2 (Or.inr (Or.inr (Or.inr ⟨rfl, DG35.out.2.2.2⟩)))))
        ·rw [decide_eq_false (show ¬ p31 < p35 by omega)]
         have heq35 : p35 = p31 := by have := DG35.out.1; omega
         exact Goes.fail _ (by rw [heq35]; exact HR31.out q) (by rw [heq35]; exact zal (Or.inl ⟨rfl, HK32.out.1, HK32.out.2⟩) (by rw [hll]; exact le31) (by rw [← heq35]; exact DG35.out.2.2.2))
     ·have hkN30 : ((c30 : Int) != 101) = true := by rw [bne_iff_ne]; omega
      have hkM30 : ((c30 : Int) != 69) = true := by rw [bne_iff_ne]; omega
      have HK30 := hid (show at_ (nb s) p20 ≠ 101 ∧ at_ (nb s) p20 ≠ 69 by rw [HC30.out]; omega)
      go_wp2_with fail
      go_ret
      exact ⟨p20, true, rfl, hb30, ho30, fun q => Goes.done ((HR20.out q).like (za2 (Or.inr (Or.inl ⟨rfl, DG20.out.2.2.2, HK21.out, HK30.out.1, HK30.out.2⟩))))⟩
   ·have hdd20 : decide (p2 < p20) = false := decide_eq_false (by omega)
    have hdN20 : ¬ (p2 < p20) := by omega
    have heq20 : p20 = p2 := by have := DG20.out.1; omega
    go_wp2_with fail
    go_ret
    exact ⟨p20, false, rfl, hb20, ho20, fun q => Goes.fail _ (by rw [heq20]; exact HR2.out q) (by rw [heq20]; exact zmd (Or.inr rfl) (by rw [hll]; exact le2) (by rw [← heq20]; exact DG20.out.2.2.2))⟩
 ·have hkN1 : ((c1 : Int) == 45) = false := by rw [beq_eq_false_iff_ne]; omega
  have HK1 := hid (show at_ (nb s) k ≠ 45 by rw [HC1.out]; exact hk1)
  have SN36 := hid (fun W hW => zbb g s k v d m W hW)
  generalize hc36 : at_ (nb s) k = c36 at SN36
  have HC36 := hid hc36
  clear hc36
  go_wp2_with fail
  refine (SN36.out _ (by exact hb1)).mono ?_
  rintro e w36 ⟨rfl, hb36, ho36'⟩
  have ho36 := (ho1).trans ho36'
  clear SN36 ho36'
  by_cases hk36 : c36 = 48
  ·have hkI36 : (c36 : Int) = 48 := by omega
   have HK36 := hid hk36
   obtain ⟨p37, hp37⟩ : ∃ p37, p37 = k + 1 := ⟨_, rfl⟩
   have c1_37 := (hb36).c1
   have f1_37 := (hb36).fr 1
   have x1_37 := zg k (by omega)
   have hb37 := (hb36).at' p37 ((k : Int) + 1) (by omega)
   have ho37 := (ho36).set 1 (.int .i64 ((k : Int) + 1))
   have HR37 := hid (show ∀ q, R (nb s) (to q 0) k (to q 11) p37 from fun q => by rw [hp37]; exact (HR.out q).trans (zmc (Or.inl rfl) (by rw [HC36.out]; exact HK36.out)))
   have le37 : p37 ≤ s.size := by have := (HR37.out L.start).le; rw [hll] at this; exact this.2
   have HP37 := hid hp37
   clear hp37
   have SN38 := hid (fun W hW => zbb g s p37 v d m W hW)
   generalize hc38 : at_ (nb s) p37 = c38 at SN38
   have HC38 := hid hc38
   clear hc38
   go_wp2_with fail
   refine (SN38.out _ (by exact hb37)).mono ?_
   rintro e w38 ⟨rfl, hb38, ho38'⟩
   have ho38 := (ho37).trans ho38'
   clear SN38 ho38'
   by_cases hk38 : c38 = 46
   ·have hkI38 : (c38 : Int) = 46 := by omega
    have HK38 := hid hk38
    obtain ⟨p39, hp39⟩ : ∃ p39, p39 = p37 + 1 := ⟨_, rfl⟩
    have c1_39 := (hb38).c1
    have f1_39 := (hb38).fr 1
    have x1_39 := zg p37 (by omega)
    have hb39 := (hb38).at' p39 ((p37 : Int) + 1) (by omega)
    have ho39 := (ho38).set 1 (.int .i64 ((p37 : Int) + 1))
    have HR39 := hid (show ∀ q, R (nb s) (to q 0) k (to q 13) p39 from fun q => by rw [hp39]; exact (HR37.out q).trans (zh5 (Or.inl rfl) (by rw [HC38.out]; exact HK38.out)))
    have le39 : p39 ≤ s.size := by have := (HR39.out L.start).le; rw [hll] at this; exact this.2
    have HP39 := hid hp39
    clear hp39
    go_wp2_with fail
    refine (zai g s p39 v d m _ (by exact hb39) le39 hs).mono ?_
    rintro e w40 ⟨p40, rfl, hb40, ho40', hdg40⟩
    have ho40 := (ho39).trans ho40'
    have le40 : p40 ≤ s.size := by have := hdg40.2.1; rw [hll] at this; exact this
    have DG40 := hid hdg40
    clear hdg40 ho40'
    rcases Nat.lt_or_ge p39 p40 with hlt40 | hge40
    ·have hdd40 : decide (p39 < p40) = true := decide_eq_true hlt40
     have HR40 := hid (show ∀ q, R (nb s) (to q 0) k (to q 14) p40 from fun q => (HR39.out q).trans (zg2 hlt40 DG40.out.2.1 DG40.out.2.2.1))
     have SN41 := hid (fun W hW => zbb g s p40 v d m W hW)
     generalize hc41 : at_ (nb s) p40 = c41 at SN41
     have HC41 := hid hc41
     clear hc41
     go_wp2_with fail
     refine (SN41.out _ (by exact hb40)).mono ?_
     rintro e w41 ⟨rfl, hb41, ho41'⟩
     have ho41 := (ho40).trans ho41'
     clear SN41 ho41'
     by_cases hk41 : c41 = 101 ∨ c41 = 69
     ·have HK41 := hid hk41
      obtain ⟨p42, hp42⟩ : ∃ p42, p42 = p40 + 1 := ⟨_, rfl⟩
      have c1_42 := (hb41).c1
      have f1_42 := (hb41).fr 1
      have x1_42 := zg p40 (by omega)
      have hb42 := (hb41).at' p42 ((p40 : Int) + 1) (by omega)
      have ho42 := (ho41).set 1 (.int .i64 ((p40 : Int) + 1))
      have HR42 := hid (show ∀ q, R (nb s) (to q 0) k (to q 15) p42 from fun q => by rw [hp42]; exact (HR40.out q).trans (zei (Or.inr (Or.inr rfl)) (by rw [HC41.out]; exact HK41.out)))
      have le42 : p42 ≤ s.size := by have := (HR42.out L.start).le; rw [hll] at this; exact this.2
      have HP42 := hid hp42
      clear hp42
      have hb101_41 : (((c41 : Int) != 101) && ((c41 : Int) != 69)) = false := by rcases hk41 with rfl | rfl <;> decide
      rcases hk41 with rfl | rfl
      all_goals
       have SN43 := hid (fun W hW => zbb g s p42 v d m W hW)
       generalize hc43 : at_ (nb s) p42 = c43 at SN43
       have HC43 := hid hc43
       clear hc43
       go_wp2_with fail
       refine (SN43.out _ (by exact hb42)).mono ?_
       rintro e w43 ⟨rfl, hb43, ho43'⟩
       have ho43 := (ho42).trans ho43'
       clear SN43 ho43'
       by_cases hk43 : c43 = 43 ∨ c43 = 45
       ·have HK43 := hid hk43
        obtain ⟨p44, hp44⟩ : ∃ p44, p44 = p42 + 1 := ⟨_, rfl⟩
        have c1_44 := (hb43).c1
        have f1_44 := (hb43).fr 1
        have x1_44 := zg p42 (by omega)
        have hb44 := (hb43).at' p44 ((p42 : Int) + 1) (by omega)
        have ho44 := (ho43).set 1 (.int .i64 ((p42 : Int) + 1))
        have HR44 := hid (show ∀ q, R (nb s) (to q 0) k (to q 16) p44 from fun q => by rw [hp44]; exact (HR42.out q).trans (zdn (by rw [HC43.out]; exact HK43.out)))
        have le44 : p44 ≤ s.size := by have := (HR44.out L.start).le; rw [hll] at this; exact this.2
        have HP44 := hid hp44
        clear hp44
        rcases hk43 with rfl | rfl
        all_goals
         go_wp2_with fail
         refine (zai g s p44 v d m _ (by exact hb44) le44 hs).mono ?_
         rintro e w45 ⟨p45, rfl, hb45, ho45', hdg45⟩
         have ho45 := (ho44).trans ho45'
         have le45 : p45 ≤ s.size := by have := hdg45.2.1; rw [hll] at this; exact this
         have DG45 := hid hdg45
         clear hdg45 ho45'
         go_wp2_with fail
         go_ret
         refine ⟨p45, decide (p44 < p45), rfl, hb45, ho45, fun q => ?_⟩
         rcases Nat.lt_or_ge p44 p45 with hlt45 | hge45
         ·rw [decide_eq_true hlt45]
          exact Goes.done (((HR44.out q).trans (zbp (Or.inr rfl) hlt45 DG45.out.2.1 DG45.out.2.2.1)).like (za2 (Or.inr (Or.inr (Or.inr ⟨rfl, DG45.out.2.2.2⟩)))))
         ·rw [decide_eq_false (show ¬ p44 < p45 by omega)]
          have heq45 : p45 = p44 := by have := DG45.out.1; omega
          exact Goes.fail _ (by rw [heq45]; exact HR44.out q) (by rw [heq45]; exact zal (Or.inr rfl) (by rw [hll]; exact le44) (by rw [← heq45]; exact DG45.out.2.2.2))
       ·have hkN43 : ((c43 : Int) == 43) = false := by rw [beq_eq_false_iff_ne]; omega
        have hkM43 : ((c43 : Int) == 45) = false := by rw [beq_eq_false_iff_ne]; omega
        have HK43 := hid (show at_ (nb s) p42 ≠ 43 ∧ at_ (nb s) p42 ≠ 45 by rw [HC43.out]; omega)
        go_wp2_with fail
        refine (zai g s p42 v d m _ (by exact hb43) le42 hs).mono ?_
        rintro e w46 ⟨p46, rfl, hb46, ho46', hdg46⟩
        have ho46 := (ho43).trans ho46'
        have le46 : p46 ≤ s.size := by have := hdg46.2.1; rw [hll] at this; exact this
        have DG46 := hid hdg46
        clear hdg46 ho46'
        go_wp2_with fail
        go_ret
        refine ⟨p46, decide (p42 < p46), rfl, hb46, ho46, fun q => ?_⟩
        rcases Nat.lt_or_ge p42 p46 with hlt46 | hge46
        ·rw [decide_eq_true hlt46]
         exact Goes.done (((HR42.out q).trans (zbp (Or.inl rfl) hlt46 DG46.out.2.1 DG46.out.2.2.1)).like (za2 (Or.inr (Or.inr (Or.inr ⟨rfl, DG46.out.2.2.2⟩)))))
        ·rw [decide_eq_false (show ¬ p42 < p46 by omega)]
         have heq46 : p46 = p42 := by have := DG46.out.1; omega
         exact Goes.fail _ (by rw [heq46]; exact HR42.out q) (by rw [heq46]; exact zal (Or.inl ⟨rfl, HK43.out.1, HK43.out.2⟩) (by rw [hll]; exact le42) (by rw [← heq46]; exact DG46.out.2.2.2))
     ·have hkN41 : ((c41 : Int) != 101) = true := by rw [bne_iff_ne]; omega
      have hkM41 : ((c41 : Int) != 69) = true := by rw [bne_iff_ne]; omega
      have HK41 := hid (show at_ (nb s) p40 ≠ 101 ∧ at_ (nb s) p40 ≠ 69 by rw [HC41.out]; omega)
      go_wp2_with fail
      go_ret
      exact ⟨p40, true, rfl, hb41, ho41, fun q => Goes.done ((HR40.out q).like (za2 (Or.inr (Or.inr (Or.inl ⟨rfl, DG40.out.2.2.2, HK41.out.1, HK41.out.2⟩)))))⟩
    ·have hdd40 : decide (p39 < p40) = false := decide_eq_false (by omega)
     have hdN40 : ¬ (p39 < p40) := by omega
     have heq40 : p40 = p39 := by have := DG40.out.1; omega
     go_wp2_with fail
     go_ret
     exact ⟨p40, false, rfl, hb40, ho40, fun q => Goes.fail _ (by rw [heq40]; exact HR39.out q) (by rw [heq40]; exact zds (by rw [hll]; exact le39) (by rw [← heq40]; exact DG40.out.2.2.2))⟩
   ·have hkN38 : ((c38 : Int) == 46) = false := by rw [beq_eq_false_iff_ne]; omega
    have HK38 := hid (show at_ (nb s) p37 ≠ 46 by rw [HC38.out]; exact hk38)
    have SN47 := hid (fun W hW => zbb g s p37 v d m W hW)
    generalize hc47 : at_ (nb s) p37 = c47 at SN47
    have HC47 := hid hc47
    clear hc47
    go_wp2_with fail
    refine (SN47.out _ (by exact hb38)).mono ?_
    rintro e w47 ⟨rfl, hb47, ho47'⟩
    have ho47 := (ho38).trans ho47'
    clear SN47 ho47'
    by_cases hk47 : c47 = 101 ∨ c47 = 69
    ·have HK47 := hid hk47
     obtain ⟨p48, hp48⟩ : ∃ p48, p48 = p37 + 1 := ⟨_, rfl⟩
     have c1_48 := (hb47).c1
     have f1_48 := (hb47).fr 1
     have x1_48 := zg p37 (by omega)
     have hb48 := (hb47).at' p48 ((p37 : Int) + 1) (by omega)
     have ho48 := (ho47).set 1 (.int .i64 ((p37 : Int) + 1))
     have HR48 := hid (show ∀ q, R (nb s) (to q 0) k (to q 15) p48 from fun q => by rw [hp48]; exact (HR37.out q).trans (zei (Or.inl rfl) (by rw [HC47.out]; exact HK47.out)))
     have le48 : p48 ≤ s.size := by have := (HR48.out L.start).le; rw [hll] at this; exact this.2
     have HP48 := hid hp48
     clear hp48
     have hb101_47 : (((c47 : Int) != 101) && ((c47 : Int) != 69)) = false := by rcases hk47 with rfl | rfl <;> decide
     rcases hk47 with rfl | rfl
     all_goals
      have SN49 := hid (fun W hW => zbb g s p48 v d m W hW)
      generalize hc49 : at_ (nb s) p48 = c49 at SN49
      have HC49 := hid hc49
      clear hc49
      go_wp2_with fail
      refine (SN49.out _ (by exact hb48)).mono ?_
      rintro e w49 ⟨rfl, hb49, ho49'⟩
      have ho49 := (ho48).trans ho49'
      clear SN49 ho49'
      by_cases hk49 : c49 = 43 ∨ c49 = 45
      ·have HK49 := hid hk49
       obtain ⟨p50, hp50⟩ : ∃ p50, p50 = p48 + 1 := ⟨_, rfl⟩
       have c1_50 := (hb49).c1
       have f1_50 := (hb49).fr 1
       have x1_50 := zg p48 (by omega)
       have hb50 := (hb49).at' p50 ((p48 : Int) + 1) (by omega)
       have ho50 := (ho49).set 1 (.int .i64 ((p48 : Int) + 1))
       have HR50 := hid (show ∀ q, R (nb s) (to q 0) k (to q 16) p50 from fun q => by rw [hp50]; exact (HR48.out q).trans (zdn (by rw [HC49.out]; exact HK49.out)))
       have le50 : p50 ≤ s.size := by have := (HR50.out L.start).le; rw [hll] at this; exact this.2
       have HP50 := hid hp50
       clear hp50
       rcases hk49 with rfl | rfl
       all_goals
        go_wp2_with fail
        refine (zai g s p50 v d m _ (by exact hb50) le50 hs).mono ?_
        rintro e w51 ⟨p51, rfl, hb51, ho51', hdg51⟩
        have ho51 := (ho50).trans ho51'
        have le51 : p51 ≤ s.size := by have := hdg51.2.1; rw [hll] at this; exact this
        have DG51 := hid hdg51
        clear hdg51 ho51'
        go_wp2_with fail
        go_ret
        refine ⟨p51, decide (p50 < p51), rfl, hb51, ho51, fun q => ?_⟩
        rcases Nat.lt_or_ge p50 p51 with hlt51 | hge51
        ·rw [decide_eq_true hlt51]
         exact Goes.done (((HR50.out q).trans (zbp (Or.inr rfl) hlt51 DG51.out.2.1 DG51.out.2.2.1)).like (za2 (Or.inr (Or.inr (Or.inr ⟨rfl, DG51.out.2.2.2⟩)))))
        ·rw [decide_eq_false (show ¬ p50 < p51 by omega)]
         have heq51 : p51 = p50 := by have := DG51.out.1; omega
         exact Goes.fail _ (by rw [heq51]; exact HR50.out q) (by rw [heq51]; exact zal (Or.inr rfl) (by rw [hll]; exact le50) (by rw [← heq51]; exact DG51.out.2.2.2))
      ·have hkN49 : ((c49 : Int) == 43) = false := by rw [beq_eq_false_iff_ne]; omega
       have hkM49 : ((c49 : Int) == 45) = false := by rw [beq_eq_false_iff_ne]; omega
       have HK49 := hid (show at_ (nb s) p48 ≠ 43 ∧ at_ (nb s) p48 ≠ 45 by rw [HC49.out]; omega)
       go_wp2_with fail
       refine (zai g s p48 v d m _ (by exact hb49) le48 hs).mono ?_
       rintro e w52 ⟨p52, rfl, hb52, ho52', hdg52⟩
       have ho52 := (ho49).trans ho52'
       have le52 : p52 ≤ s.size := by have := hdg52.2.1; rw [hll] at this; exact this
       have DG52 := hid hdg52
       clear hdg52 ho52'
       go_wp2_with fail
       go_ret
       refine ⟨p52, decide (p48 < p52), rfl, hb52, ho52, fun q => ?_⟩
       rcases Nat.lt_or_ge p48 p52 with hlt52 | hge52
       ·rw [decide_eq_true hlt52]
        exact Goes.done (((HR48.out q).trans (zbp (Or.inl rfl) hlt52 DG52.out.2.1 DG52.out.2.2.1)).like (za2 (Or.inr (Or.inr (Or.inr ⟨rfl, DG52.out.2.2.2⟩)))))
       ·rw [decide_eq_false (show ¬ p48 < p52 by omega)]
        have heq52 : p52 = p48 := by have := DG52.out.1; omega
        exact Goes.fail _ (by rw [heq52]; exact HR48.out q) (by rw [heq52]; exact zal (Or.inl ⟨rfl, HK49.out.1, HK49.out.2⟩) (by rw [hll]; exact le48) (by rw [← heq52]; exact DG52.out.2.2.2))
    ·have hkN47 : ((c47 : Int) != 101) = true := by rw [bne_iff_ne]; omega
     have hkM47 : ((c47 : Int) != 69) = true := by rw [bne_iff_ne]; omega
     have HK47 := hid (show at_ (nb s) p37 ≠ 101 ∧ at_ (nb s) p37 ≠ 69 by rw [HC47.out]; omega)
     go_wp2_with fail
     go_ret
     exact ⟨p37, true, rfl, hb47, ho47, fun q => Goes.done ((HR37.out q).like (za2 (Or.inl ⟨rfl, HK38.out, HK47.out.1, HK47.out.2⟩)))⟩
  ·have hkN36 : ((c36 : Int) == 48) = false := by rw [beq_eq_false_iff_ne]; omega
   have HK36 := hid hk36
   go_wp2_with fail
   refine (zai g s k v d m _ (by exact hb36) hk hs).mono ?_
   rintro e w53 ⟨p53, rfl, hb53, ho53', hdg53⟩
   have ho53 := (ho36).trans ho53'
   have le53 : p53 ≤ s.size := by have := hdg53.2.1; rw [hll] at this; exact this
   have DG53 := hid hdg53
   clear hdg53 ho53'
   rcases Nat.lt_or_ge k p53 with hlt53 | hge53
   ·have hdd53 : decide (k < p53) = true := decide_eq_true hlt53
    have HR53 := hid (show ∀ q, R (nb s) (to q 0) k (to q 12) p53 from fun q => (HR.out q).trans (zom (Or.inl rfl) (by rw [HC36.out]; exact HK36.out) hlt53 DG53.out.2.1 DG53.out.2.2.1))
    have SN54 := hid (fun W hW => zbb g s p53 v d m W hW)
    generalize hc54 : at_ (nb s) p53 = c54 at SN54
    have HC54 := hid hc54
    clear hc54
    go_wp2_with fail
    refine (SN54.out _ (by exact hb53)).mono ?_
    rintro e w54 ⟨rfl, hb54, ho54'⟩
    have ho54 := (ho53).trans ho54'
    clear SN54 ho54'
    by_cases hk54 : c54 = 46
    ·have hkI54 : (c54 : Int) = 46 := by omega
     have HK54 := hid hk54
     obtain ⟨p55, hp55⟩ : ∃ p55, p55 = p53 + 1 := ⟨_, rfl⟩
     have c1_55 := (hb54).c1
     have f1_55 := (hb54).fr 1
     have x1_55 := zg p53 (by omega)
     have hb55 := (hb54).at' p55 ((p53 : Int) + 1) (by omega)
     have ho55 := (ho54).set 1 (.int .i64 ((p53 : Int) + 1))
     have HR55 := hid (show ∀ q, R (nb s) (to q 0) k (to q 13) p55 from fun q => by rw [hp55]; exact (HR53.out q).trans (zh5 (Or.inr rfl) (by rw [HC54.out]; exact HK54.out)))
     have le55 : p55 ≤ s.size := by have := (HR55.out L.start).le; rw [hll] at this; exact this.2
     have HP55 := hid hp55
     clear hp55
     go_wp2_with fail
     refine (zai g s p55 v d m _ (by exact hb55) le55 hs).mono ?_
     rintro e w56 ⟨p56, rfl, hb56, ho56', hdg56⟩
     have ho56 := (ho55).trans ho56'
     have le56 : p56 ≤ s.size := by have := hdg56.2.1; rw [hll] at this; exact this
     have DG56 := hid hdg56
     clear hdg56 ho56'
     rcases Nat.lt_or_ge p55 p56 with hlt56 | hge56
     ·have hdd56 : decide (p55 < p56) = true := decide_eq_true hlt56
      have HR56 := hid (show ∀ q, R (nb s) (to q 0) k (to q 14) p56 from fun q => (HR55.out q).trans (zg2 hlt56 DG56.out.2.1 DG56.out.2.2.1))
      have SN57 := hid (fun W hW => zbb g s p56 v d m W hW)
      generalize hc57 : at_ (nb s) p56 = c57 at SN57
      have HC57 := hid hc57
      clear hc57
      go_wp2_with fail
      refine (SN57.out _ (by exact hb56)).mono ?_
      rintro e w57 ⟨rfl, hb57, ho57'⟩
      have ho57 := (ho56).trans ho57'
      clear SN57 ho57'
      by_cases hk57 : c57 = 101 ∨ c57 = 69
      ·have HK57 := hid hk57
       obtain ⟨p58, hp58⟩ : ∃ p58, p58 = p56 + 1 := ⟨_, rfl⟩
       have c1_58 := (hb57).c1
       have f1_58 := (hb57).fr 1
       have x1_58 := zg p56 (by omega)
       have hb58 := (hb57).at' p58 ((p56 : Int) + 1) (by omega)
       have ho58 := (ho57).set 1 (.int .i64 ((p56 : Int) + 1))
       have HR58 := hid (show ∀ q, R (nb s) (to q 0) k (to q 15) p58 from fun q => by rw [hp58]; exact (HR56.out q).trans (zei (Or.inr (Or.inr rfl)) (by rw [HC57.out]; exact HK57.out)))
       have le58 : p58 ≤ s.size := by have := (HR58.out L.start).le; rw [hll] at this; exact this.2
       have HP58 := hid hp58
       clear hp58
       have hb101_57 : (((c57 : Int) != 101) && ((c57 : Int) != 69)) = false := by rcases hk57 with rfl | rfl <;> decide
       rcases hk57 with rfl | rfl
       all_goals
        have SN59 := hid (fun W hW => zbb g s p58 v d m W hW)
        generalize hc59 : at_ (nb s) p58 = c59 at SN59
        have HC59 := hid hc59
        clear hc59
        go_wp2_with fail
        refine (SN59.out _ (by exact hb58)).mono ?_
        rintro e w59 ⟨rfl, hb59, ho59'⟩
        have ho59 := (ho58).trans ho59'
        clear SN59 ho59'
        by_cases hk59 : c59 = 43 ∨ c59 = 45
        ·have HK59 := hid hk59
         obtain ⟨p60, hp60⟩ : ∃ p60, p60 = p58 + 1 := ⟨_, rfl⟩
         have c1_60 := (hb59).c1
         have f1_60 := (hb59).fr 1
         have x1_60 := zg p58 (by omega)
         have hb60 := (hb59).at' p60 ((p58 : Int) + 1) (by omega)
         have ho60 := (ho59).set 1 (.int .i64 ((p58 : Int) + 1))
         have HR60 := hid (show ∀ q, R (nb s) (to q 0) k (to q 16) p60 from fun q => by rw [hp60]; exact (HR58.out q).trans (zdn (by rw [HC59.out]; exact HK59.out)))
         have le60 : p60 ≤ s.size := by have := (HR60.out L.start).le; rw [hll] at this; exact this.2
         have HP60 := hid hp60
         clear hp60
         rcases hk59 with rfl | rfl
         all_goals
          go_wp2_with fail
          refine (zai g s p60 v d m _ (by exact hb60) le60 hs).mono ?_
          rintro e w61 ⟨p61, rfl, hb61, ho61', hdg61⟩
          have ho61 := (ho60).trans ho61'
          have le61 : p61 ≤ s.size := by have := hdg61.2.1; rw [hll] at this; exact this
          have DG61 := hid hdg61
          clear hdg61 ho61'
          go_wp2_with fail
          go_ret
          refine ⟨p61, decide (p60 < p61), rfl, hb61, ho61, fun q => ?_⟩
          rcases Nat.lt_or_ge p60 p61 with hlt61 | hge61
          ·rw [decide_eq_true hlt61]
           exact Goes.done (((HR60.out q).trans (zbp (Or.inr rfl) hlt61 DG61.out.2.1 DG61.out.2.2.1)).like (za2 (Or.inr (Or.inr (Or.inr ⟨rfl, DG61.out.2.2.2⟩)))))
          ·rw [decide_eq_false (show ¬ p60 < p61 by omega)]
           have heq61 : p61 = p60 := by have := DG61.out.1; omega
           exact Goes.fail _ (by rw [heq61]; exact HR60.out q) (by rw [heq61]; exact zal (Or.inr rfl) (by rw [hll]; exact le60) (by rw [← heq61]; exact DG61.out.2.2.2))
        ·have hkN59 : ((c59 : Int) == 43) = false := by rw [beq_eq_false_iff_ne]; omega
         have hkM59 : ((c59 : Int) == 45) = false := by rw [beq_eq_false_iff_ne]; omega
         have HK59 := hid (show at_ (nb s) p58 ≠ 43 ∧ at_ (nb s) p58 ≠ 45 by rw [HC59.out]; omega)
         go_wp2_with fail
         refine (zai g s p58 v d m _ (by exact hb59) le58 hs).mono ?_
         rintro e w62 ⟨p62, rfl, hb62, ho62', hdg62⟩
         have ho62 := (ho59).trans ho62'
         have le62 : p62 ≤ s.size := by have := hdg62.2.1; rw [hll] at this; exact this
         have DG62 := hid hdg62
         clear hdg62 ho62'
         go_wp2_with fail
         go_ret
         refine ⟨p62, decide (p58 < p62), rfl, hb62, ho62, fun q => ?_⟩
         rcases Nat.lt_or_ge p58 p62 with hlt62 | hge62
         ·rw [decide_eq_true hlt62]
          exact Goes.done (((HR58.out q).trans (zbp (Or.inl rfl) hlt62 DG62.out.2.1 DG62.out.2.2.1)).like (za2 (Or.inr (Or.inr (Or.inr ⟨rfl, DG62.out.2.2.2⟩)))))
         ·rw [decide_eq_false (show ¬ p58 < p62 by omega)]
          have heq62 : p62 = p58 := by have := DG62.out.1; omega
          exact Goes.fail _ (by rw [heq62]; exact HR58.out q) (by rw [heq62]; exact zal (Or.inl ⟨rfl, HK59.out.1, HK59.out.2⟩) (by rw [hll]; exact le58) (by rw [← heq62]; exact DG62.out.2.2.2))
      ·have hkN57 : ((c57 : Int) != 101) = true := by rw [bne_iff_ne]; omega
       have hkM57 : ((c57 : Int) != 69) = true := by rw [bne_iff_ne]; omega
       have HK57 := hid (show at_ (nb s) p56 ≠ 101 ∧ at_ (nb s) p56 ≠ 69 by rw [HC57.out]; omega)
       go_wp2_with fail
       go_ret
       exact ⟨p56, true, rfl, hb57, ho57, fun q => Goes.done ((HR56.out q).like (za2 (Or.inr (Or.inr (Or.inl ⟨rfl, DG56.out.2.2.2, HK57.out.1, HK57.out.2⟩)))))⟩
     ·have hdd56 : decide (p55 < p56) = false := decide_eq_false (by omega)
      have hdN56 : ¬ (p55 < p56) := by omega
      have heq56 : p56 = p55 := by have := DG56.out.1; omega
      go_wp2_with fail
      go_ret
      exact ⟨p56, false, rfl, hb56, ho56, fun q => Goes.fail _ (by rw [heq56]; exact HR55.out q) (by rw [heq56]; exact zds (by rw [hll]; exact le55) (by rw [← heq56]; exact DG56.out.2.2.2))⟩
    ·have hkN54 : ((c54 : Int) == 46) = false := by rw [beq_eq_false_iff_ne]; omega
     have HK54 := hid (show at_ (nb s) p53 ≠ 46 by rw [HC54.out]; exact hk54)
     have SN63 := hid (fun W hW => zbb g s p53 v d m W hW)
     generalize hc63 : at_ (nb s) p53 = c63 at SN63
     have HC63 := hid hc63
     clear hc63
     go_wp2_with fail
     refine (SN63.out _ (by exact hb54)).mono ?_
     rintro e w63 ⟨rfl, hb63, ho63'⟩
     have ho63 := (ho54).trans ho63'
     clear SN63 ho63'
     by_cases hk63 : c63 = 101 ∨ c63 = 69
     ·have HK63 := hid hk63
      obtain ⟨p64, hp64⟩ : ∃ p64, p64 = p53 + 1 := ⟨_, rfl⟩
      have c1_64 := (hb63).c1
      have f1_64 := (hb63).fr 1
      have x1_64 := zg p53 (by omega)
      have hb64 := (hb63).at' p64 ((p53 : Int) + 1) (by omega)
      have ho64 := (ho63).set 1 (.int .i64 ((p53 : Int) + 1))
      have HR64 := hid (show ∀ q, R (nb s) (to q 0) k (to q 15) p64 from fun q => by rw [hp64]; exact (HR53.out q).trans (zei (Or.inr (Or.inl rfl)) (by rw [HC63.out]; exact HK63.out)))
      have le64 : p64 ≤ s.size := by have := (HR64.out L.start).le; rw [hll] at this; exact this.2
      have HP64 := hid hp64
      clear hp64
      have hb101_63 : (((c63 : Int) != 101) && ((c63 : Int) != 69)) = false := by rcases hk63 with rfl | rfl <;> decide
      rcases hk63 with rfl | rfl
      all_goals
       have SN65 := hid (fun W hW => zbb g s p64 v d m W hW)
       generalize hc65 : at_ (nb s) p64 = c65 at SN65
       have HC65 := hid hc65
       clear hc65
       go_wp2_with fail
       refine (SN65.out _ (by exact hb64)).mono ?_
       rintro e w65 ⟨rfl, hb65, ho65'⟩
       have ho65 := (ho64).trans ho65'
       clear SN65 ho65'
       by_cases hk65 : c65 = 43 ∨ c65 = 45
       ·have HK65 := hid hk65
        obtain ⟨p66, hp66⟩ : ∃ p66, p66 = p64 + 1 := ⟨_, rfl⟩
        have c1_66 := (hb65).c1
        have f1_66 := (hb65).fr 1
        have x1_66 := zg p64 (by omega)
        have hb66 := (hb65).at' p66 ((p64 : Int) + 1) (by omega)
        have ho66 := (ho65).set 1 (.int .i64 ((p64 : Int) + 1))
        have HR66 := hid (show ∀ q, R (nb s) (to q 0) k (to q 16) p66 from fun q => by rw [hp66]; exact (HR64.out q).trans (zdn (by rw [HC65.out]; exact HK65.out)))
        have le66 : p66 ≤ s.size := by have := (HR66.out L.start).le; rw [hll] at this; exact this.2
        have HP66 := hid hp66
        clear hp66
        rcases hk65 with rfl | rfl
        all_goals
         go_wp2_with fail
         refine (zai g s p66 v d m _ (by exact hb66) le66 hs).mono ?_
         rintro e w67 ⟨p67, rfl, hb67, ho67', hdg67⟩
         have ho67 := (ho66).trans ho67'
         have le67 : p67 ≤ s.size := by have := hdg67.2.1; rw [hll] at this; exact this
         have DG67 := hid hdg67
         clear hdg67 ho67'
         go_wp2_with fail
         go_ret
         refine ⟨p67, decide (p66 < p67), rfl, hb67, ho67, fun q => ?_⟩
         rcases Nat.lt_or_ge p66 p67 with hlt67 | hge67
         ·rw [decide_eq_true hlt67]
          exact Goes.done (((HR66.out q).trans (zbp (Or.inr rfl) hlt67 DG67.out.2.1 DG67.out.2.2.1)).like (za2 (Or.inr (Or.inr (Or.inr ⟨rfl, DG67.out.2.2.2⟩)))))
         ·rw [decide_eq_false (show ¬ p66 < p67 by omega)]
          have heq67 : p67 = p66 := by have := DG67.out.1; omega
          exact Goes.fail _ (by rw [heq67]; exact HR66.out q) (by rw [heq67]; exact zal (Or.inr rfl) (by rw [hll]; exact le66) (by rw [← heq67]; exact DG67.out.2.2.2))
       ·have hkN65 : ((c65 : Int) == 43) = false := by rw [beq_eq_false_iff_ne]; omega
        have hkM65 : ((c65 : Int) == 45) = false := by rw [beq_eq_false_iff_ne]; omega
        have HK65 := hid (show at_ (nb s) p64 ≠ 43 ∧ at_ (nb s) p64 ≠ 45 by rw [HC65.out]; omega)
        go_wp2_with fail
        refine (zai g s p64 v d m _ (by exact hb65) le64 hs).mono ?_
        rintro e w68 ⟨p68, rfl, hb68, ho68', hdg68⟩
        have ho68 := (ho65).trans ho68'
        have le68 : p68 ≤ s.size := by have := hdg68.2.1; rw [hll] at this; exact this
        have DG68 := hid hdg68
        clear hdg68 ho68'
        go_wp2_with fail
        go_ret
        refine ⟨p68, decide (p64 < p68), rfl, hb68, ho68, fun q => ?_⟩
        rcases Nat.lt_or_ge p64 p68 with hlt68 | hge68
        ·rw [decide_eq_true hlt68]
         exact Goes.done (((HR64.out q).trans (zbp (Or.inl rfl) hlt68 DG68.out.2.1 DG68.out.2.2.1)).like (za2 (Or.inr (Or.inr (Or.inr ⟨rfl, DG68.out.2.2.2⟩)))))
        ·rw [decide_eq_false (show ¬ p64 < p68 by omega)]
         have heq68 : p68 = p64 := by have := DG68.out.1; omega
         exact Goes.fail _ (by rw [heq68]; exact HR64.out q) (by rw [heq68]; exact zal (Or.inl ⟨rfl, HK65.out.1, HK65.out.2⟩) (by rw [hll]; exact le64) (by rw [← heq68]; exact DG68.out.2.2.2))
     ·have hkN63 : ((c63 : Int) != 101) = true := by rw [bne_iff_ne]; omega
      have hkM63 : ((c63 : Int) != 69) = true := by rw [bne_iff_ne]; omega
      have HK63 := hid (show at_ (nb s) p53 ≠ 101 ∧ at_ (nb s) p53 ≠ 69 by rw [HC63.out]; omega)
      go_wp2_with fail
      go_ret
      exact ⟨p53, true, rfl, hb63, ho63, fun q => Goes.done ((HR53.out q).like (za2 (Or.inr (Or.inl ⟨rfl, DG53.out.2.2.2, HK54.out, HK63.out.1, HK63.out.2⟩))))⟩
   ·have hdd53 : decide (k < p53) = false := decide_eq_false (by omega)
    have hdN53 : ¬ (k < p53) := by omega
    have heq53 : p53 = k := by have := DG53.out.1; omega
    go_wp2_with fail
    go_ret
    exact ⟨p53, false, rfl, hb53, ho53, fun q => Goes.fail _ (by rw [heq53]; exact HR.out q) (by rw [heq53]; exact zmd (Or.inl ⟨rfl, HK1.out, hnumb⟩) (by rw [hll]; exact hk) (by rw [← heq53]; exact DG53.out.2.2.2))⟩
theorem zo6 {l rest : List Nat} {k k' x : Nat} {ok : Bool} (h : Tk l (x :: rest) k k' ok) (hx : at_ l k = x) (hx0 : x ≠ 0) (hne : rest ≠ []) (hnz : ∀ i, i < rest.length → rest[i]?.getD 0 ≠ 0) (hk' : k' ≤ l.length) (hd : ∀ q, delta (to q 0) x = some (toL q rest)) : Num l k ok k' := fun q => by
 have hkl : k < l.length := zb3 (by omega)
 have hat : ∀ i, at_ (x :: rest) (i + 1) = rest[i]?.getD 0 := fun i => rfl
 rcases h with ⟨rfl, e2, h⟩ | ⟨rfl, j, hj, e2, h, hn⟩
 ·have h1 := zrq (r := []) (q := to q 0) k x rest hx hkl hne (hd q) rest.length (Nat.le_refl _) (fun i hi => by
   have h2 := h (i + 1) (by rw [List.length_cons]; omega)
   rw [hat, show k + (i + 1) = k + 1 + i from by omega] at h2
   exact ⟨zb3 (by rw [h2]; exact hnz i hi), h2⟩)
  rw [if_pos rfl] at h1
  rw [e2, List.length_cons, show k + (rest.length + 1) = k + 1 + rest.length from by omega]
  exact Goes.done h1
 ·rw [List.length_cons] at hj
  obtain ⟨j, rfl⟩ : ∃ j', j = j' + 1 := ⟨j - 1, by
   rcases Nat.eq_zero_or_pos j with h0 | h0
   ·subst h0; rw [e2] at hn; exact absurd hx hn
   ·omega⟩
  have h1 := zrq (r := []) (q := to q 0) k x rest hx hkl hne (hd q) j (by omega) (fun i hi => by
   have h2 := h (i + 1) (by omega)
   rw [hat, show k + (i + 1) = k + 1 + i from by omega] at h2
   exact ⟨zb3 (by rw [h2]; exact hnz i (by omega)), h2⟩)
  rw [if_neg (by omega)] at h1
  rw [hat] at hn
  rw [show k + (j + 1) = k + 1 + j from by omega] at e2
  rw [← e2] at h1
  exact Goes.fail _ h1 (z1f k' rest (by omega) hk' hn)
theorem zwm {l : List Nat} {k k' : Nat} {ok : Bool} (hx : at_ l k = 34) (h : Strg l (k + 1) ok k') : Num l k ok k' := fun q => by
 have h1 : R l (to q 0) k (toS q 6 false 0) (k + 1) := R.of (Dr.step (zb3 (by omega)) (by rw [hx]; rfl))
 exact Goes.pre h1 (h q false)
theorem zwn : ∀ i, i < ({ data := #[110, 117, 108, 108] } : ByteArray).size → at_ (nb { data := #[110, 117, 108, 108] }) i ≠ 0 := by
 have : ∀ i : Fin 4, at_ (nb { data := #[110, 117, 108, 108] }) i.1 ≠ 0 := by decide
 exact fun i hi => this ⟨i, hi⟩
theorem zwo : ∀ i, i < ({ data := #[116, 114, 117, 101] } : ByteArray).size → at_ (nb { data := #[116, 114, 117, 101] }) i ≠ 0 := by
 have : ∀ i : Fin 4, at_ (nb { data := #[116, 114, 117, 101] }) i.1 ≠ 0 := by decide
 exact fun i hi => this ⟨i, hi⟩
theorem zs4 : ∀ i, i < ({ data := #[102, 97, 108, 115, 101] } : ByteArray).size → at_ (nb { data := #[102, 97, 108, 115, 101] }) i ≠ 0 := by
 have : ∀ i : Fin 5, at_ (nb { data := #[102, 97, 108, 115, 101] }) i.1 ≠ 0 := by decide
 exact fun i hi => this ⟨i, hi⟩
theorem zo7 (rest : List Nat) (h : rest.all (fun x => x != 0) = true) : ∀ i, i < rest.length → rest[i]?.getD 0 ≠ 0 := fun i hi => by
 rw [List.getElem?_eq_getElem hi, Option.getD_some]
 have := List.all_eq_true.1 h _ (List.getElem_mem hi)
 simpa using this
theorem zs5 {l : List Nat} {k k' : Nat} {ok : Bool} (h : Tk l (nb { data := #[110, 117, 108, 108] }) k k' ok) (hx : at_ l k = 110) (hk' : k' ≤ l.length) : Num l k ok k' :=
 zo6 (x := 110) (rest := [117, 108, 108]) h hx (by decide) (by simp) (zo7 _ (by decide)) hk' (fun q => rfl)
theorem zs6 {l : List Nat} {k k' : Nat} {ok : Bool} (h : Tk l (nb { data := #[116, 114, 117, 101] }) k k' ok) (hx : at_ l k = 116) (hk' : k' ≤ l.length) : Num l k ok k' :=
 zo6 (x := 116) (rest := [114, 117, 101]) h hx (by decide) (by simp) (zo7 _ (by decide)) hk' (fun q => rfl)
theorem zqa {l : List Nat} {k k' : Nat} {ok : Bool} (h : Tk l (nb { data := #[102, 97, 108, 115, 101] }) k k' ok) (hx : at_ l k = 102) (hk' : k' ≤ l.length) : Num l k ok k' :=
 zo6 (x := 102) (rest := [97, 108, 115, 101]) h hx (by decide) (by simp) (zo7 _ (by decide)) hk' (fun q => rfl)
theorem zzy (g : Nat) (s : ByteArray) (k : Nat) (v : Value) (d m : Nat) (w : World) (hb : ScAt w g s k v d m) (hk : k ≤ s.size) (hs : s.size ≤ 65536) (h1 : L.blank (at_ (nb s) k) = false) (h2 : at_ (nb s) k ≠ 91) (h3 : at_ (nb s) k ≠ 123) :
  Calls Tryz.prog 159 #[.pointer (some ⟨g, 0, none⟩)] w fun e w' => ∃ k' ok, e = .returned (.bool ok) ∧ ScAt w' g s k' v d m ∧ Sco g w w' ∧ Num (nb s) k ok k' := by
 have hll := zf s
 have SN := hid (zbb g s k v d m w hb)
 have SS := hid (fun W hW => zs3 g s k v d m W hW hk hs)
 have TN := hid (fun W hW => zga { data := #[110, 117, 108, 108] } g s k v d m W hW hk hs zwn (by decide))
 have TT := hid (fun W hW => zga { data := #[116, 114, 117, 101] } g s k v d m W hW hk hs zwo (by decide))
 have TF := hid (fun W hW => zga { data := #[102, 97, 108, 115, 101] } g s k v d m W hW hk hs zs4 (by decide))
 have SM := hid (fun W hW hn => zu5 g s k v d m W hW hk hs hn)
 have H := hid (And.intro h1 (And.intro h2 h3))
 clear h1 h2 h3
 generalize hc : at_ (nb s) k = c at *
 have HC := hid hc
 clear hc
 go_enter Tryz.func159, Tryz.ntmps159
 go_wp2_with fail
 refine SN.out.mono ?_
 rintro e w1 ⟨rfl, hb1, ho1⟩
 by_cases k1 : c = 34
 ·have kI : (c : Int) = 34 := by omega
  have HK := hid k1
  go_wp2_with fail
  refine (SS.out _ hb1).mono ?_
  rintro e w2 ⟨k', ok, rfl, hb2, ho2, hq⟩
  go_wp2_with fail
  go_ret
  rcases hq with ⟨hq, _⟩ | ⟨hq, hst⟩
  ·exact absurd HK.out hq
  ·exact ⟨k', ok, rfl, hb2, ho1.trans ho2, zwm (HC.out.trans hq) hst⟩
 ·have kN : ((c : Int) == 34) = false := by rw [beq_eq_false_iff_ne]; omega
  by_cases k2 : c = 110
  ·have kI : (c : Int) = 110 := by omega
   have HK := hid k2
   go_wp2_with fail
   refine (TN.out _ hb1).mono ?_
   rintro e w2 ⟨k', ok, rfl, hb2, ho2, hk', htk⟩
   go_wp2_with fail
   go_ret
   exact ⟨k', ok, rfl, hb2, ho1.trans ho2, zs5 htk (HC.out.trans HK.out) (by rw [hll]; exact hk')⟩
  ·have kN2 : ((c : Int) == 110) = false := by rw [beq_eq_false_iff_ne]; omega
   by_cases k3 : c = 116
   ·have kI : (c : Int) = 116 := by omega
    have HK := hid k3
    go_wp2_with fail
    refine (TT.out _ hb1).mono ?_
    rintro e w2 ⟨k', ok, rfl, hb2, ho2, hk', htk⟩
    go_wp2_with fail
    go_ret
    exact ⟨k', ok, rfl, hb2, ho1.trans ho2, zs6 htk (HC.out.trans HK.out) (by rw [hll]; exact hk')⟩
   ·have kN3 : ((c : Int) == 116) = false := by rw [beq_eq_false_iff_ne]; omega
    by_cases k4 : c = 102
    ·have kI : (c : Int) = 102 := by omega
     have HK := hid k4
     go_wp2_with fail
     refine (TF.out _ hb1).mono ?_
     rintro e w2 ⟨k', ok, rfl, hb2, ho2, hk', htk⟩
     go_wp2_with fail
     go_ret
     exact ⟨k', ok, rfl, hb2, ho1.trans ho2, zqa htk (HC.out.trans HK.out) (by rw [hll]; exact hk')⟩
    ·have kN4 : ((c : Int) == 102) = false := by rw [beq_eq_false_iff_ne]; omega
     have HNU := hid (show numb c from ⟨H.out.1, H.out.2.1, H.out.2.2, k1, k2, k3, k4⟩)
     go_wp2_with fail
     refine (SM.out _ hb1 HNU.out).mono ?_
     rintro e w2 ⟨k', ok, rfl, hb2, ho2, hnum⟩
     go_wp2_with fail
     go_ret
     exact ⟨k', ok, rfl, hb2, ho1.trans ho2, hnum⟩
def TPos (l : List Nat) (lab k m : Nat) (st : List Bool) : Prop :=
 (lab = 0 ∧ R l L.start 0 (Q 0 st m) k) ∨ (lab = 1 ∧ st ≠ [] ∧ k < l.length ∧ ∃ q, R l L.start 0 q k ∧ delta q (at_ l k) = some (Q 5 st.tail m)) ∨ (lab = 2 ∧ R l L.start 0 (Q 3 st m) k) ∨ (lab = 3 ∧ R l L.start 0 (Q 5 st m) k)
structure TSt (w w' : World) (g : Nat) (s : ByteArray) (k d m : Nat) (v : Value) (st : List Bool) : Prop where
 sc : ScAt w' g s k v d m
 len : d = st.length
 sk : SkAt w' g v st
 be : Below g w w'
 kle : k ≤ s.size
 dle : d ≤ k
 mle : m ≤ k
def Txt (w w' : World) (g : Nat) (s : ByteArray) (ok : Bool) : Prop :=
 ∃ k v d m, ScAt w' g s k v d m ∧ Below g w w' ∧ ((ok = true ∧ k = s.size ∧ ∃ q, R (nb s) L.start 0 q k ∧ fin q = true ∧ q.most = m) ∨ (ok = false ∧ ∃ q, R (nb s) L.start 0 q k ∧ Dead (nb s) q k))
theorem SkAt.sco {w w' : World} {g : Nat} {v : Value} {st : List Bool} (h : SkAt w g v st) (ho : Sco g w w') : SkAt w' g v st := by
 obtain ⟨ws, hown, ht⟩ := h
 exact ⟨ws, zac hown ho (fun j hj e => by have := (hown.lt _ hj).1; omega), ht⟩
theorem Sco.be {w w' : World} {g : Nat} (ho : Sco g w w') (hg : g ≤ w.heap.size) : Below g w w' := Only.below ho (fun i hi => by rw [hi]; exact Nat.le_refl _) hg
theorem TSt.sco {w w1 w2 : World} {g : Nat} {s : ByteArray} {k d m k' : Nat} {v : Value} {st : List Bool} (h : TSt w w1 g s k d m v st) (hb : ScAt w2 g s k' v d m) (ho : Sco g w1 w2) (hk : k ≤ k') (hk' : k' ≤ s.size) : TSt w w2 g s k' d m v st :=
 ⟨hb, h.len, h.sk.sco ho, h.be.trans (ho.be (Nat.le_of_lt (za.lt h.sc))), hk', Nat.le_trans h.dle hk, Nat.le_trans h.mle hk⟩
theorem Blk.nb {l : List Nat} {k k' : Nat} (h : Blk l k k') : L.blank (at_ l k') = false := by
 rcases Nat.lt_or_ge k' l.length with h1 | h1
 ·exact h.2.2.2 h1
 ·rw [zcw h1]; rfl
theorem zs7 : ∀ i, i < ({ data := #[58] } : ByteArray).size → at_ (nb { data := #[58] }) i ≠ 0 := fun i hi => by
 have h1 : i < 1 := hi
 obtain rfl : i = 0 := by omega
 decide
theorem z2j : nb { data := #[58] } = [58] := rfl
def FrJ (g : Nat) (a : Act) : Prop := ∃ f : Nat → Value, a = { tmps := #[.pointer (some ⟨g, 0, none⟩), f 1, f 2, f 3, f 4, f 5, f 6, f 7, f 8, f 9, f 10, f 11, f 12, f 13, f 14, f 15, f 16, f 17, f 18, f 19, f 20, f 21, f 22, f 23, f 24, f 25, f 26, f 27, f 28, f 29, f 30, f 31, f 32, f 33, f 34, f 35, f 36, f 37, f 38, f 39, f 40, f 41, f 42, f 43, f 44, f 45, f 46, f 47, f 48, f 49, f 50, f 51, f 52, f 53, f 54, f 55, f 56, f 57, f 58, f 59, f 60, f 61, f 62, f 63, f 64, f 65, f 66, f 67, f 68, f 69, f 70, f 71, f 72, f 73, f 74, f 75, f 76, f 77, f 78, f 79, f 80, f 81, f 82, f 83, f 84, f 85, f 86, f 87, f 88, f 89, f 90, f 91, f 92, f 93, f 94, f 95, f 96, f 97], defers := [] }
theorem FrJ.mk (g : Nat) (u1 u2 u3 u4 u5 u6 u7 u8 u9 u10 u11 u12 u13 u14 u15 u16 u17 u18 u19 u20 u21 u22 u23 u24 u25 u26 u27 u28 u29 u30 u31 u32 u33 u34 u35 u36 u37 u38 u39 u40 u41 u42 u43 u44 u45 u46 u47 u48 u49 u50 u51 u52 u53 u54 u55 u56 u57 u58 u59 u60 u61 u62 u63 u64 u65 u66 u67 u68 u69 u70 u71 u72 u73 u74 u75 u76 u77 u78 u79 u80 u81 u82 u83 u84 u85 u86 u87 u88 u89 u90 u91 u92 u93 u94 u95 u96 u97 : Value) : FrJ g { tmps := #[.pointer (some ⟨g, 0, none⟩), u1, u2, u3, u4, u5, u6, u7, u8, u9, u10, u11, u12, u13, u14, u15, u16, u17, u18, u19, u20, u21, u22, u23, u24, u25, u26, u27, u28, u29, u30, u31, u32, u33, u34, u35, u36, u37, u38, u39, u40, u41, u42, u43, u44, u45, u46, u47, u48, u49, u50, u51, u52, u53, u54, u55, u56, u57, u58, u59, u60, u61, u62, u63, u64, u65, u66, u67, u68, u69, u70, u71, u72, u73, u74, u75, u76, u77, u78, u79, u80, u81, u82, u83, u84, u85, u86, u87, u88, u89, u90, u91, u92, u93, u94, u95, u96, u97], defers := [] } := ⟨fun i => ([undef, u1, u2, u3, u4, u5, u6, u7, u8, u9, u10, u11, u12, u13, u14, u15, u16, u17, u18, u19, u20, u21, u22, u23, u24, u25, u26, u27, u28, u29, u30, u31, u32, u33, u34, u35, u36, u37, u38, u39, u40, u41, u42, u43, u44, u45, u46, u47, u48, u49, u50, u51, u52, u53, u54, u55, u56, u57, u58, u59, u60, u61, u62, u63, u64, u65, u66, u67, u68, u69, u70, u71, u72, u73, u74, u75, u76, u77, u78, u79, u80, u81, u82, u83, u84, u85, u86, u87, u88, u89, u90, u91, u92, u93, u94, u95, u96, u97] : List Value)[i]?.getD undef, rfl⟩
theorem zzz (g : Nat) (s : ByteArray) (w : World) (hb : ScAt w g s 0 (.slice none 0 0) 0 0) (hs : s.size ≤ 65536) :
  Calls Tryz.prog 127 #[.pointer (some ⟨g, 0, none⟩)] w fun e w' => ∃ ok, e = .returned (.bool ok) ∧ Txt w w' g s ok := by
 have hll := zf s
 go_enter Tryz.func127, Tryz.ntmps127
 go_wp2_with fail
 refine zid (fun l a' w' => ∃ (k d m : Nat) (v : Value) (st : List Bool), TSt w w' g s k d m v st ∧ TPos (nb s) l k m st ∧ FrJ g a') (fun l _ w' => 3 * (s.size - zbf w' g) + (if l = 0 then 2 else if l = 3 then 1 else 0)) ?_ ?_ ?_
 ·rintro l a' w' ⟨k, d, m, v, st, T, P, _⟩
  rcases P with ⟨rfl, _⟩ | ⟨rfl, _⟩ | ⟨rfl, _⟩ | ⟨rfl, _⟩
  ·exact ⟨_, rfl⟩
  ·exact ⟨_, rfl⟩
  ·exact ⟨_, rfl⟩
  ·exact ⟨_, rfl⟩
 ·rintro l B hB a' w' ⟨k, d, m, v, st, T, P, hfr⟩ fall
  rcases P with ⟨rfl, hR⟩ | ⟨rfl, hne, hkl, q, hr, hdl⟩ | ⟨rfl, hR⟩ | ⟨rfl, hR⟩
  ·have e := Option.some.inj (hB.symm.trans (rfl : findLabel _ 0 = some (Code.seq Code.skip _)))
   clear hB
   injection e with _ e2
   subst e2
   obtain ⟨f, rfl⟩ := hfr
   dsimp only at fall ⊢
   go_wp2_with fail
   refine (zdw g s k v d m _ (by exact T.sc) T.kle hs).mono ?_
   rintro e w1 ⟨rfl, k1, hb1, ho1, hbk1⟩
   have T1 := T.sco hb1 ho1 hbk1.1 (by have := hbk1.2.1; rw [hll] at this; exact this)
   have R1 := hid ((hR).trans (zcm (M := 0) (by omega) st m hbk1.1 hbk1.2.1 hbk1.2.2.1))
   have B1 := hid hbk1.nb
   have G1 := hid hbk1.1
   have L1 : k1 ≤ (nb s).length := by rw [hll]; exact T1.kle
   clear hbk1 hb1 ho1
   have SN2 := zbb g s k1 v d m _ T1.sc
   generalize hc2 : at_ (nb s) k1 = c2 at SN2
   have C2 := hid hc2
   clear hc2
   go_wp2_with fail
   refine SN2.mono ?_
   rintro e w2 ⟨rfl, hb2, ho2⟩
   have T2 := T1.sco hb2 ho2 (Nat.le_refl _) T1.kle
   clear hb2 ho2 SN2
   by_cases h91 : c2 = 91
   ·have hI : (c2 : Int) = 91 := by omega
    have HK := hid h91
    go_wp2_with fail
    refine (zp3 g s k1 v d m false st _ (by exact T2.sc) T2.len (by have := T2.dle; have := T2.kle; omega) (by have := T2.kle; omega) (by have := T2.mle; have := T2.kle; omega) T2.sk).mono ?_
    rintro e w3 ⟨rfl, v3, hb3, hs3, he3⟩
    have K3 : k1 < s.size := zew (by rw [C2.out, HK.out]; decide)
    have T3 : TSt w w3 g s (k1 + 1) (d + 1) (max m (d + 1)) v3 (false :: st) := ⟨hb3, by rw [List.length_cons, T2.len], hs3, T2.be.trans he3, K3, by have := T2.dle; omega, by have := T2.dle; have := T2.mle; omega⟩
    have R3 := hid (R1.out.trans (open_arr (by rw [C2.out]; exact HK.out)))
    rw [← T2.len] at R3
    clear hb3 hs3 he3
    obtain ⟨d3, hd3⟩ : ∃ d3, d3 = d + 1 := ⟨_, rfl⟩
    obtain ⟨m3, hm3⟩ : ∃ m3, m3 = max m (d + 1) := ⟨_, rfl⟩
    obtain ⟨k3, hk3⟩ : ∃ k3, k3 = k1 + 1 := ⟨_, rfl⟩
    rw [← hm3, ← hk3, ← hd3] at T3
    rw [← hm3, ← hk3] at R3
    have HK3 := hid hk3
    clear hd3 hm3 hk3
    go_wp2_with fail
    refine (zdw g s k3 v3 d3 m3 _ (by exact T3.sc) T3.kle hs).mono ?_
    rintro e w4 ⟨rfl, k4, hb4, ho4, hbk4⟩
    have T4 := T3.sco hb4 ho4 hbk4.1 (by have := hbk4.2.1; rw [hll] at this; exact this)
    have R4 := hid ((R3.out).trans (zcm (M := 1) (by omega) (false :: st) m3 hbk4.1 hbk4.2.1 hbk4.2.2.1))
    have B4 := hid hbk4.nb
    have G4 := hid hbk4.1
    have L4 : k4 ≤ (nb s).length := by rw [hll]; exact T4.kle
    clear hbk4 hb4 ho4
    have SN5 := zbb g s k4 v3 d3 m3 _ T4.sc
    generalize hc5 : at_ (nb s) k4 = c5 at SN5
    have C5 := hid hc5
    clear hc5
    go_wp2_with fail
    refine SN5.mono ?_
    rintro e w5 ⟨rfl, hb5, ho5⟩
    have T5 := T4.sco hb5 ho5 (Nat.le_refl _) T4.kle
    clear hb5 ho5 SN5
    by_cases h5 : c5 = 93
    ·have hI5 : (c5 : Int) = 93 := by omega
     have K5 := hid (show at_ (nb s) k4 = 93 by rw [C5.out]; exact h5)
     go_wp2_with fail
     go_step3
     refine ⟨⟨k4, d3, m3, v3, (false :: st), T5, Or.inr (Or.inl ⟨rfl, by simp, by rw [hll]; exact zew (by rw [K5.out]; decide), _, R4.out, zlr _ K5.out⟩), FrJ.mk ..⟩, ?_⟩
     show 3 * (s.size - zbf _ g) + 0 < 3 * (s.size - zbf _ g) + 2
     rw [T5.sc.pos, T.sc.pos]
     have := T5.kle
     have := HK3.out; have := G1.out; have := G4.out; have := T3.kle; omega
    ·have hN5 : ((c5 : Int) == 93) = false := by rw [beq_eq_false_iff_ne]; omega
     have K5 := hid (show at_ (nb s) k4 ≠ 93 by rw [C5.out]; exact h5)
     go_wp2_with fail
     go_step3
     refine ⟨⟨k4, d3, m3, v3, (false :: st), T5, Or.inl ⟨rfl, R4.out.like (zm2 B4.out K5.out)⟩, FrJ.mk ..⟩, ?_⟩
     show 3 * (s.size - zbf _ g) + 2 < 3 * (s.size - zbf _ g) + 2
     rw [T5.sc.pos, T.sc.pos]
     have := T5.kle
     have := HK3.out; have := G1.out; have := G4.out; have := T3.kle; omega
   ·have hN91 : ((c2 : Int) == 91) = false := by rw [beq_eq_false_iff_ne]; omega
    by_cases h123 : c2 = 123
    ·have hI : (c2 : Int) = 123 := by omega
     have HK := hid h123
     go_wp2_with fail
     refine (zp3 g s k1 v d m true st _ (by exact T2.sc) T2.len (by have := T2.dle; have := T2.kle; omega) (by have := T2.kle; omega) (by have := T2.mle; have := T2.kle; omega) T2.sk).mono ?_
     rintro e w3 ⟨rfl, v3, hb3, hs3, he3⟩
     have K3 : k1 < s.size := zew (by rw [C2.out, HK.out]; decide)
     have T3 : TSt w w3 g s (k1 + 1) (d + 1) (max m (d + 1)) v3 (true :: st) := ⟨hb3, by rw [List.length_cons, T2.len], hs3, T2.be.trans he3, K3, by have := T2.dle; omega, by have := T2.dle; have := T2.mle; omega⟩
     have R3 := hid (R1.out.trans (zrr (by rw [C2.out]; exact HK.out)))
     rw [← T2.len] at R3
     clear hb3 hs3 he3
     obtain ⟨d3, hd3⟩ : ∃ d3, d3 = d + 1 := ⟨_, rfl⟩
     obtain ⟨m3, hm3⟩ : ∃ m3, m3 = max m (d + 1) := ⟨_, rfl⟩
     obtain ⟨k3, hk3⟩ : ∃ k3, k3 = k1 + 1 := ⟨_, rfl⟩
     rw [← hm3, ← hk3, ← hd3] at T3
     rw [← hm3, ← hk3] at R3
     have HK3 := hid hk3
     clear hd3 hm3 hk3
     go_wp2_with fail
     refine (zdw g s k3 v3 d3 m3 _ (by exact T3.sc) T3.kle hs).mono ?_
     rintro e w4 ⟨rfl, k4, hb4, ho4, hbk4⟩
     have T4 := T3.sco hb4 ho4 hbk4.1 (by have := hbk4.2.1; rw [hll] at this; exact this)
     have R4 := hid ((R3.out).trans (zcm (M := 2) (by omega) (true :: st) m3 hbk4.1 hbk4.2.1 hbk4.2.2.1))
     have B4 := hid hbk4.nb
     have G4 := hid hbk4.1
     have L4 : k4 ≤ (nb s).length := by rw [hll]; exact T4.kle
     clear hbk4 hb4 ho4
     have SN5 := zbb g s k4 v3 d3 m3 _ T4.sc
     generalize hc5 : at_ (nb s) k4 = c5 at SN5
     have C5 := hid hc5
     clear hc5
     go_wp2_with fail
     refine SN5.mono ?_
     rintro e w5 ⟨rfl, hb5, ho5⟩
     have T5 := T4.sco hb5 ho5 (Nat.le_refl _) T4.kle
     clear hb5 ho5 SN5
     by_cases h5 : c5 = 125
     ·have hI5 : (c5 : Int) = 125 := by omega
      have K5 := hid (show at_ (nb s) k4 = 125 by rw [C5.out]; exact h5)
      go_wp2_with fail
      go_step3
      refine ⟨⟨k4, d3, m3, v3, (true :: st), T5, Or.inr (Or.inl ⟨rfl, by simp, by rw [hll]; exact zew (by rw [K5.out]; decide), _, R4.out, zj1 _ K5.out⟩), FrJ.mk ..⟩, ?_⟩
      show 3 * (s.size - zbf _ g) + 0 < 3 * (s.size - zbf _ g) + 2
      rw [T5.sc.pos, T.sc.pos]
      have := T5.kle
      have := HK3.out; have := G1.out; have := G4.out; have := T3.kle; omega
     ·have hN5 : ((c5 : Int) == 125) = false := by rw [beq_eq_false_iff_ne]; omega
      have K5 := hid (show at_ (nb s) k4 ≠ 125 by rw [C5.out]; exact h5)
      go_wp2_with fail
      go_step3
      refine ⟨⟨k4, d3, m3, v3, (true :: st), T5, Or.inr (Or.inr (Or.inl ⟨rfl, R4.out.like (zlq B4.out K5.out)⟩)), FrJ.mk ..⟩, ?_⟩
      show 3 * (s.size - zbf _ g) + 0 < 3 * (s.size - zbf _ g) + 2
      rw [T5.sc.pos, T.sc.pos]
      have := T5.kle
      have := HK3.out; have := G1.out; have := G4.out; have := T3.kle; omega
    ·have hN123 : ((c2 : Int) == 123) = false := by rw [beq_eq_false_iff_ne]; omega
     have SL := zzy g s k1 v d m w2 T2.sc T2.kle hs B1.out (by rw [C2.out]; exact h91) (by rw [C2.out]; exact h123)
     go_wp2_with fail
     refine SL.mono ?_
     rintro e w3 ⟨k3, ok, rfl, hb3, ho3, hn3⟩
     have hle3 := (hn3 (Q 0 st m)).le
     have T3 := T2.sco hb3 ho3 hle3.1 (by have := hle3.2; rw [hll] at this; exact this)
     have G3 := hid hle3.1
     have g3 : Goes (nb s) (Q 0 st m) k1 ok (Q 5 st m) k3 := hn3 (Q 0 st m)
     clear hb3 ho3 hle3 hn3
     rcases g3 with ⟨rfl, r3⟩ | ⟨rfl, q3, r3, d3⟩
     ·have R3 := hid (R1.out.trans r3)
      clear r3
      go_wp2_with fail
      go_step3
      refine ⟨⟨k3, d, m, v, st, T3, Or.inr (Or.inr (Or.inr ⟨rfl, R3.out⟩)), FrJ.mk ..⟩, ?_⟩
      show 3 * (s.size - zbf _ g) + 1 < 3 * (s.size - zbf _ g) + 2
      rw [T3.sc.pos, T.sc.pos]
      have := T3.kle
      have := G1.out; have := G3.out; omega
     ·have R3 := hid (R1.out.trans r3)
      have D3 := hid d3
      clear r3 d3
      go_wp2_with fail
      go_ret
      exact ⟨false, rfl, k3, v, d, m, T3.sc, T3.be, Or.inr ⟨rfl, q3, R3.out, D3.out⟩⟩
  ·have e := Option.some.inj (hB.symm.trans (rfl : findLabel _ 1 = some (Code.seq Code.skip _)))
   clear hB
   injection e with _ e2
   subst e2
   obtain ⟨f, rfl⟩ := hfr
   dsimp only at fall ⊢
   obtain ⟨t, st', rfl⟩ : ∃ t st', st = t :: st' := by
    cases st with
    | nil => exact absurd rfl hne
    | cons t st' => exact ⟨t, st', rfl⟩
   obtain ⟨d', rfl⟩ : ∃ d', d = d' + 1 := ⟨d - 1, by have := T.len; rw [List.length_cons] at this; omega⟩
   have hkk : k < s.size := by rw [hll] at hkl; exact hkl
   have R2 := hid (show R (nb s) L.start 0 (Q 5 st' m) (k + 1) from hr.step hkl hdl)
   clear hr hdl hkl hne
   go_wp2_with fail
   refine (z1w g s k v d' m _ (by exact T.sc) (by omega) (by have := T.dle; omega)).mono ?_
   rintro e w1 ⟨rfl, hb1, ho1⟩
   have T1 : TSt w w1 g s (k + 1) d' m v st' := ⟨hb1, by have := T.len; rw [List.length_cons] at this; omega, by
     obtain ⟨ws, hown, ht⟩ := T.sk.sco ho1
     exact ⟨ws, hown, ht.pop⟩, T.be.trans (ho1.be (Nat.le_of_lt (za.lt T.sc))), hkk, by have := T.dle; omega, by have := T.mle; omega⟩
   clear hb1 ho1
   go_wp2_with fail
   go_step3
   rename_i hQ
   refine hQ _ _ (fall 3 _ rfl _ _ ⟨k + 1, d', m, v, st', T1, Or.inr (Or.inr (Or.inr ⟨rfl, R2.out⟩)), FrJ.mk ..⟩ ?_)
   show 3 * (s.size - zbf _ g) + 1 < 3 * (s.size - zbf _ g) + 0
   rw [T1.sc.pos, T.sc.pos]
   omega
  ·have e := Option.some.inj (hB.symm.trans (rfl : findLabel _ 2 = some (Code.seq Code.skip _)))
   clear hB
   injection e with _ e2
   subst e2
   obtain ⟨f, rfl⟩ := hfr
   dsimp only at fall ⊢
   go_wp2_with fail
   refine (zdw g s k v d m _ (by exact T.sc) T.kle hs).mono ?_
   rintro e w1 ⟨rfl, k1, hb1, ho1, hbk1⟩
   have T1 := T.sco hb1 ho1 hbk1.1 (by have := hbk1.2.1; rw [hll] at this; exact this)
   have R1 := hid ((hR).trans (zcm (M := 3) (by omega) st m hbk1.1 hbk1.2.1 hbk1.2.2.1))
   have B1 := hid hbk1.nb
   have G1 := hid hbk1.1
   have L1 : k1 ≤ (nb s).length := by rw [hll]; exact T1.kle
   clear hbk1 hb1 ho1
   go_wp2_with fail
   refine (zs3 g s k1 v d m _ (by exact T1.sc) T1.kle hs).mono ?_
   rintro e w2 ⟨k2, ok, rfl, hb2, ho2, hq2⟩
   rcases hq2 with ⟨hq, rfl, rfl⟩ | ⟨hq, hst⟩
   ·have T2 := T1.sco hb2 ho2 (Nat.le_refl _) T1.kle
    have D2 := hid (zrs (st := st) (m := m) L1 B1.out hq)
    clear hb2 ho2 hq
    go_wp2_with fail
    go_ret
    exact ⟨false, rfl, _, v, d, m, T2.sc, T2.be, Or.inr ⟨rfl, _, R1.out, D2.out⟩⟩
   ·have g2 : Goes (nb s) (Q 3 st m) k1 ok (Q 4 st m) k2 := Goes.pre (zrt hq) (hst (Q 3 st m) true)
    have hle2 := g2.le
    have T2 := T1.sco hb2 ho2 hle2.1 (by have := hle2.2; rw [hll] at this; exact this)
    have G2 := hid hle2.1
    clear hb2 ho2 hle2 hst
    rcases g2 with ⟨rfl, r2⟩ | ⟨rfl, q2, r2, d2⟩
    ·have R2 := hid (R1.out.trans r2)
     clear r2
     go_wp2_with fail
     refine (zdw g s k2 v d m _ (by exact T2.sc) T2.kle hs).mono ?_
     rintro e w3 ⟨rfl, k3, hb3, ho3, hbk3⟩
     have T3 := T2.sco hb3 ho3 hbk3.1 (by have := hbk3.2.1; rw [hll] at this; exact this)
     have R3 := hid ((R2.out).trans (zcm (M := 4) (by omega) st m hbk3.1 hbk3.2.1 hbk3.2.2.1))
     have B3 := hid hbk3.nb
     have G3 := hid hbk3.1
     have L3 : k3 ≤ (nb s).length := by rw [hll]; exact T3.kle
     clear hbk3 hb3 ho3
     go_wp2_with fail
     refine (zga { data := #[58] } g s k3 v d m _ (by exact T3.sc) T3.kle hs zs7 (by decide)).mono ?_
     rintro e w4 ⟨k4, ok, rfl, hb4, ho4, hk4, htk⟩
     rw [z2j] at htk
     rcases zs2 htk with ⟨rfl, hk4e, hq4⟩ | ⟨rfl, hk4e, hq4⟩
     ·have T4 := T3.sco hb4 ho4 (by omega) hk4
      have R4 := hid (show R (nb s) L.start 0 (Q 0 st m) k4 from by rw [hk4e]; exact R3.out.trans (zv0 hq4))
      have E4 := hid hk4e
      clear hb4 ho4 htk hk4e hk4 hq4
      go_wp2_with fail
      go_step3
      refine ⟨⟨k4, d, m, v, st, T4, Or.inl ⟨rfl, R4.out⟩, FrJ.mk ..⟩, ?_⟩
      show 3 * (s.size - zbf _ g) + 2 < 3 * (s.size - zbf _ g) + 0
      rw [T4.sc.pos, T.sc.pos]
      have := T4.kle
      have := E4.out; have := G1.out; have := G2.out; have := G3.out; omega
     ·have T4 := T3.sco hb4 ho4 (by omega) hk4
      have D4 := hid (show Dead (nb s) (Q 4 st m) k4 from by rw [hk4e]; exact zm3 L3 B3.out hq4)
      have R4 := hid (show R (nb s) L.start 0 (Q 4 st m) k4 from by rw [hk4e]; exact R3.out)
      clear hb4 ho4 htk hk4e hk4 hq4
      go_wp2_with fail
      go_ret
      exact ⟨false, rfl, k4, v, d, m, T4.sc, T4.be, Or.inr ⟨rfl, _, R4.out, D4.out⟩⟩
    ·have R2 := hid (R1.out.trans r2)
     have D2 := hid d2
     clear r2 d2
     go_wp2_with fail
     go_ret
     exact ⟨false, rfl, k2, v, d, m, T2.sc, T2.be, Or.inr ⟨rfl, _, R2.out, D2.out⟩⟩
  ·have e := Option.some.inj (hB.symm.trans (rfl : findLabel _ 3 = some (Code.seq Code.skip _)))
   clear hB
   injection e with _ e2
   subst e2
   obtain ⟨f, rfl⟩ := hfr
   dsimp only at fall ⊢
   go_wp2_with fail
   refine (zdw g s k v d m _ (by exact T.sc) T.kle hs).mono ?_
   rintro e w1 ⟨rfl, k1, hb1, ho1, hbk1⟩
   have T1 := T.sco hb1 ho1 hbk1.1 (by have := hbk1.2.1; rw [hll] at this; exact this)
   have R1 := hid ((hR).trans (zcm (M := 5) (by omega) st m hbk1.1 hbk1.2.1 hbk1.2.2.1))
   have B1 := hid hbk1.nb
   have G1 := hid hbk1.1
   have L1 : k1 ≤ (nb s).length := by rw [hll]; exact T1.kle
   clear hbk1 hb1 ho1
   cases st with
   | nil =>
     have hd0 : d = 0 := T1.len
     subst hd0
     have c0 := T1.sc.c0
     have c1 := T1.sc.c1
     have c3 := T1.sc.c3
     have hbe : ((k1 : Int) == (s.size : Int)) = decide (k1 = s.size) := by apply Bool.eq_iff_iff.2; rw [beq_iff_eq, decide_eq_true_eq]; omega
     go_wp2_with fail
     go_quiet (fail)
     go_wp2_with fail
     go_ret
     refine ⟨decide (k1 = s.size), zfb (by first | exact hbe | rfl), k1, v, 0, m, T1.sc.drewN _, below_drewN T1.be _, ?_⟩
     by_cases hks : k1 = s.size
     ·exact Or.inl ⟨decide_eq_true hks, hks, _, R1.out, zv1 m, rfl⟩
     ·exact Or.inr ⟨decide_eq_false hks, _, R1.out, zpq (by rw [hll]; have := T1.kle; omega) B1.out⟩
   | cons t st' =>
     have hdp : 0 < d := by have := T1.len; rw [List.length_cons] at this; omega
     have hd0 : ((d : Int) == 0) = false := by rw [beq_eq_false_iff_ne]; omega
     have c3 := T1.sc.c3
     have SN2 := zbb g s k1 v d m _ T1.sc
     generalize hc2 : at_ (nb s) k1 = c2 at SN2
     have C2 := hid hc2
     clear hc2
     go_wp2_with fail
     refine SN2.mono ?_
     rintro e w2 ⟨rfl, hb2, ho2⟩
     have T2 := T1.sco hb2 ho2 (Nat.le_refl _) T1.kle
     clear hb2 ho2 SN2
     by_cases h44 : c2 = 44
     ·have hI : (c2 : Int) = 44 := by omega
      have HK := hid h44
      cases t
      ·go_wp2_with fail
       refine (zdx g s k1 v d m false st' _ (by exact T2.sc) (by rw [T2.len, List.length_cons]) (by have := T2.dle; have := T2.kle; omega) T2.sk).mono ?_
       rintro e w3 ⟨rfl, n3, hn3⟩
       have hb3 : ScAt w3 g s k1 v d m := by rw [hn3]; exact T2.sc.drewN n3
       have ho3 : Sco g w2 w3 := by rw [hn3]; exact (Sco.refl g w2).drewN n3
       have T3 := T2.sco hb3 ho3 (Nat.le_refl _) T2.kle
       clear hb3 ho3 hn3
       have c1' := T3.sc.c1
       have f1' := T3.sc.fr 1
       have x1' := zg k1 (by have := T3.kle; omega)
       have K2 : k1 < s.size := zew (by rw [C2.out, HK.out]; decide)
       have T4 := T3.sco (T3.sc.at' (k1 + 1) ((k1 : Int) + 1) (by omega)) ((Sco.refl g _).set 1 _) (by omega) K2
       have R4 := hid (R1.out.trans (zv3 (by rw [C2.out]; exact HK.out)))
       go_wp2_with fail
       go_step3
       refine ⟨⟨(k1 + 1), d, m, v, (false :: st'), T4, Or.inl ⟨rfl, R4.out⟩, FrJ.mk ..⟩, ?_⟩
       show 3 * (s.size - zbf _ g) + 2 < 3 * (s.size - zbf _ g) + 1
       rw [T4.sc.pos, T.sc.pos]
       have := T4.kle
       have := G1.out; omega
      ·go_wp2_with fail
       refine (zdx g s k1 v d m true st' _ (by exact T2.sc) (by rw [T2.len, List.length_cons]) (by have := T2.dle; have := T2.kle; omega) T2.sk).mono ?_
       rintro e w3 ⟨rfl, n3, hn3⟩
       have hb3 : ScAt w3 g s k1 v d m := by rw [hn3]; exact T2.sc.drewN n3
       have ho3 : Sco g w2 w3 := by rw [hn3]; exact (Sco.refl g w2).drewN n3
       have T3 := T2.sco hb3 ho3 (Nat.le_refl _) T2.kle
       clear hb3 ho3 hn3
       have c1' := T3.sc.c1
       have f1' := T3.sc.fr 1
       have x1' := zg k1 (by have := T3.kle; omega)
       have K2 : k1 < s.size := zew (by rw [C2.out, HK.out]; decide)
       have T4 := T3.sco (T3.sc.at' (k1 + 1) ((k1 : Int) + 1) (by omega)) ((Sco.refl g _).set 1 _) (by omega) K2
       have R4 := hid (R1.out.trans (zv2 (by rw [C2.out]; exact HK.out)))
       go_wp2_with fail
       go_step3
       refine ⟨⟨(k1 + 1), d, m, v, (true :: st'), T4, Or.inr (Or.inr (Or.inl ⟨rfl, R4.out⟩)), FrJ.mk ..⟩, ?_⟩
       show 3 * (s.size - zbf _ g) + 0 < 3 * (s.size - zbf _ g) + 1
       rw [T4.sc.pos, T.sc.pos]
       have := T4.kle
       have := G1.out; omega
     ·have hN44 : ((c2 : Int) == 44) = false := by rw [beq_eq_false_iff_ne]; omega
      by_cases h93 : c2 = 93
      ·have hI : (c2 : Int) = 93 := by omega
       have HK := hid h93
       cases t
       ·go_wp2_with fail
        refine (zdx g s k1 v d m false st' _ (by exact T2.sc) (by rw [T2.len, List.length_cons]) (by have := T2.dle; have := T2.kle; omega) T2.sk).mono ?_
        rintro e w3 ⟨rfl, n3, hn3⟩
        have hb3 : ScAt w3 g s k1 v d m := by rw [hn3]; exact T2.sc.drewN n3
        have ho3 : Sco g w2 w3 := by rw [hn3]; exact (Sco.refl g w2).drewN n3
        have T3 := T2.sco hb3 ho3 (Nat.le_refl _) T2.kle
        clear hb3 ho3 hn3
        go_wp2_with fail
        go_step3
        refine ⟨⟨k1, d, m, v, (false :: st'), T3, Or.inr (Or.inl ⟨rfl, by simp, by rw [hll]; exact zew (by rw [C2.out, HK.out]; decide), _, R1.out, zj2 (Or.inl ⟨by rw [C2.out]; exact HK.out, rfl⟩)⟩), FrJ.mk ..⟩, ?_⟩
        show 3 * (s.size - zbf _ g) + 0 < 3 * (s.size - zbf _ g) + 1
        rw [T3.sc.pos, T.sc.pos]
        have := T3.kle
        have := G1.out; omega
       ·go_wp2_with fail
        refine (zdx g s k1 v d m true st' _ (by exact T2.sc) (by rw [T2.len, List.length_cons]) (by have := T2.dle; have := T2.kle; omega) T2.sk).mono ?_
        rintro e w3 ⟨rfl, n3, hn3⟩
        have hb3 : ScAt w3 g s k1 v d m := by rw [hn3]; exact T2.sc.drewN n3
        have ho3 : Sco g w2 w3 := by rw [hn3]; exact (Sco.refl g w2).drewN n3
        have T3 := T2.sco hb3 ho3 (Nat.le_refl _) T2.kle
        clear hb3 ho3 hn3
        go_wp2_with fail
        go_ret
        exact ⟨false, rfl, k1, v, d, m, T3.sc, T3.be, Or.inr ⟨rfl, _, R1.out, ziu L1 B1.out (by rw [C2.out, HK.out]; decide) (by rw [C2.out, HK.out]; simp)⟩⟩
      ·have hN93 : ((c2 : Int) == 93) = false := by rw [beq_eq_false_iff_ne]; omega
       by_cases h125 : c2 = 125
       ·have hI : (c2 : Int) = 125 := by omega
        have HK := hid h125
        cases t
        ·go_wp2_with fail
         refine (zdx g s k1 v d m false st' _ (by exact T2.sc) (by rw [T2.len, List.length_cons]) (by have := T2.dle; have := T2.kle; omega) T2.sk).mono ?_
         rintro e w3 ⟨rfl, n3, hn3⟩
         have hb3 : ScAt w3 g s k1 v d m := by rw [hn3]; exact T2.sc.drewN n3
         have ho3 : Sco g w2 w3 := by rw [hn3]; exact (Sco.refl g w2).drewN n3
         have T3 := T2.sco hb3 ho3 (Nat.le_refl _) T2.kle
         clear hb3 ho3 hn3
         go_wp2_with fail
         go_ret
         exact ⟨false, rfl, k1, v, d, m, T3.sc, T3.be, Or.inr ⟨rfl, _, R1.out, ziu L1 B1.out (by rw [C2.out, HK.out]; decide) (by rw [C2.out, HK.out]; simp)⟩⟩
        ·go_wp2_with fail
         refine (zdx g s k1 v d m true st' _ (by exact T2.sc) (by rw [T2.len, List.length_cons]) (by have := T2.dle; have := T2.kle; omega) T2.sk).mono ?_
         rintro e w3 ⟨rfl, n3, hn3⟩
         have hb3 : ScAt w3 g s k1 v d m := by rw [hn3]; exact T2.sc.drewN n3
         have ho3 : Sco g w2 w3 := by rw [hn3]; exact (Sco.refl g w2).drewN n3
         have T3 := T2.sco hb3 ho3 (Nat.le_refl _) T2.kle
         clear hb3 ho3 hn3
         go_wp2_with fail
         go_step3
         refine ⟨⟨k1, d, m, v, (true :: st'), T3, Or.inr (Or.inl ⟨rfl, by simp, by rw [hll]; exact zew (by rw [C2.out, HK.out]; decide), _, R1.out, zj2 (Or.inr ⟨by rw [C2.out]; exact HK.out, rfl⟩)⟩), FrJ.mk ..⟩, ?_⟩
         show 3 * (s.size - zbf _ g) + 0 < 3 * (s.size - zbf _ g) + 1
         rw [T3.sc.pos, T.sc.pos]
         have := T3.kle
         have := G1.out; omega
       ·have hN125 : ((c2 : Int) == 125) = false := by rw [beq_eq_false_iff_ne]; omega
        have HN := hid (show at_ (nb s) k1 ≠ 44 ∧ at_ (nb s) k1 ≠ 93 ∧ at_ (nb s) k1 ≠ 125 by rw [C2.out]; exact ⟨h44, h93, h125⟩)
        go_wp2_with fail
        go_ret
        exact ⟨false, rfl, k1, v, d, m, T2.sc, T2.be, Or.inr ⟨rfl, _, R1.out, ziu L1 B1.out HN.out.1 (by have := HN.out; omega)⟩⟩
 ·intro enter
  go_wp2_with fail
  go_step3
  rename_i hK
  refine hK _ _ (enter 0 _ rfl _ _ ?_)
  exact ⟨0, 0, 0, _, [], ⟨hb, rfl, ⟨[], World.ownsRow_nil _ _ _ _, zcy.nil⟩, Below.refl _ _, by omega, by omega, by omega⟩, Or.inl ⟨rfl, R.refl (by omega)⟩, FrJ.mk ..⟩
def L.verd (l : List Nat) (deep : Nat) : Nat × Nat :=
 if 65536 < l.length then (4, 0) else if (goA L.start l 0).2 = l.length ∧ fin (goA L.start l 0).1 = true then (if deep < (goA L.start l 0).1.most then (2, (goA L.start l 0).1.most) else (1, (goA L.start l 0).1.most)) else (3, (goA L.start l 0).2)
theorem ScAt.new (w : World) (s : ByteArray) : ScAt (w.alloc (.cells #[.string s, .int .i64 0, .slice none 0 0, .int .i64 0, .int .i64 0] 182)) w.heap.size s 0 (.slice none 0 0) 0 0 := za.new w _ _
theorem zqb (s : ByteArray) (deep : Nat) (w : World) (h1 : 1 ≤ deep) (h2 : deep ≤ 4096) :
  Calls Tryz.prog 76 #[.string s, .int .i64 (deep : Nat)] w fun e w' => e = .returned (.tuple #[.int .i64 ((verd (nb s) deep).1 : Nat), .int .i64 ((verd (nb s) deep).2 : Nat), .int .i64 0]) ∧ Below w.heap.size w w' := by
 have hll := zf s
 have d1 : decide ((deep : Int) < 1) = false := decide_eq_false (by omega)
 have d1N : ¬ (deep < 1) := by omega
 have d2 : decide ((deep : Int) > 4096) = false := decide_eq_false (by omega)
 have d2N : ¬ (4096 < deep) := by omega
 rcases Nat.lt_or_ge 65536 s.size with hs | hs
 ·have hv : verd (nb s) deep = (4, 0) := by unfold verd; rw [if_pos (by rw [hll]; exact hs)]
  rw [hv]
  have d3 : decide ((s.size : Int) > 65536) = true := decide_eq_true (by omega)
  go_enter Tryz.func76, Tryz.ntmps76
  go_wp2_with fail
  go_ret3
  exact ⟨rfl, Below.refl _ _⟩
 ·have d3 : decide ((s.size : Int) > 65536) = false := decide_eq_false (by omega)
  have d3N : ¬ (65536 < s.size) := by omega
  have hB0 := (Below.refl w.heap.size w).alloc (Nat.le_refl _) (.cells #[.string s, .int .i64 0, .slice none 0 0, .int .i64 0, .int .i64 0] 182)
  have hnot : ¬ (65536 < (nb s).length) := by rw [hll]; omega
  go_enter Tryz.func76, Tryz.ntmps76
  go_wp2_with fail
  refine (zzz w.heap.size s _ (ScAt.new w s) hs).mono ?_
  rintro e w1 ⟨ok, rfl, k, v, d, m, hb1, hbe, hres⟩
  have hB1 := hB0.trans hbe
  have c1 := hb1.c1
  have c4 := hb1.c4
  rcases hres with ⟨rfl, hk, q, hr, hf, hm⟩ | ⟨rfl, q, hr, hd⟩
  ·obtain ⟨q0, hg, hf0, hm0⟩ := zvz (by rw [hll, ← hk]; exact hr) hf
   by_cases hdm : deep < m
   ·have hv : verd (nb s) deep = (2, m) := by
     unfold verd; rw [if_neg hnot, hg, if_pos ⟨rfl, hf0⟩, hm0, hm, if_pos hdm]
    have HV := hid hv
    have d4 : decide ((m : Int) > (deep : Int)) = true := decide_eq_true (by omega)
    clear hr hf hg hf0 hm0 hm hv
    go_wp2_with fail
    go_quiet (fail)
    go_wp2_with fail
    go_ret3
    exact ⟨by rw [HV.out]; rfl, below_drewN hB1 _⟩
   ·have hv : verd (nb s) deep = (1, m) := by
     unfold verd; rw [if_neg hnot, hg, if_pos ⟨rfl, hf0⟩, hm0, hm, if_neg hdm]
    have HV := hid hv
    have d4 : decide ((m : Int) > (deep : Int)) = false := decide_eq_false (by omega)
    clear hr hf hg hf0 hm0 hm hv
    go_wp2_with fail
    go_quiet (fail)
    go_wp2_with fail
    go_ret3
    exact ⟨by rw [HV.out]; rfl, below_drewN hB1 _⟩
  ·obtain ⟨q0, hg, hn⟩ := zrp hr hd
   have hv : verd (nb s) deep = (3, k) := by
    unfold verd; rw [if_neg hnot, hg, if_neg hn]
   have HV := hid hv
   clear hr hd hg hn hv
   go_wp2_with fail
   go_quiet (fail)
   go_wp2_with fail
   go_ret3
   exact ⟨by rw [HV.out]; rfl, below_drewN hB1 _⟩
end Go.Proofs.YtgpbpgpolpakjaaGreatDoor
