/- Proof text. -/
import Derived.Test.YtgpbpgpolpakjaaGreatDoorRefQ
import Derived.Test.YtgpbpgpolpakjaaGreatDoorScanR
import Derived.Test.YtgpbpgpolpakjaaGreatDoorRefP
import Derived.Test.YtgpbpgpolpakjaaGreatDoorAutoP
import Derived.Test.YtgpbpgpolpakjaaGreatDoorScanQ
set_option maxHeartbeats 4000000
set_option linter.unusedVariables false
set_option linter.unusedSimpArgs false
set_option maxRecDepth 100000
namespace Go.Proofs.YtgpbpgpolpakjaaGreatDoor
open Go.RowKit Go.Shelf L
theorem z3p (s : ByteArray) (m : Nat) (w : World) (hs : s.size ≤ 65536) (hd : zhb (nb s) m) :
  Calls Tryz.prog 204 #[.string s] w fun e w' => e = .returned (.int .i64 (m : Nat)) ∧ Below w.heap.size w w' := by
 have hll := zf s
 have HL := hid hll
 have hm3 := hd.1
 have hms := hd.2.1
 rw [hll] at hms
 have HD := hid hd
 clear hd hll
 have hB0 := Below.refl w.heap.size w
 go_enter Tryz.func204, Tryz.ntmps204
 go_wp2_with fail
 have key : ∀ (w1 : World), Below w.heap.size w w1 → True := fun _ _ => trivial
 go_loopw [3] (fun av wr => av = .int .i64 0 ∧ Below w.heap.size w wr) (fun _ _ => 0)
 case atStart => exact ⟨rfl, hB0⟩
 case round =>
  obtain ⟨rfl, hB1⟩ := hrel
  clear hB0 key
  have h00 : (0 : Int) ≤ (s.size : Int) := by omega
  rcases Nat.eq_zero_or_pos s.size with h0 | h0
  ·have h0I : decide ((0 : Int) < (s.size : Int)) = false := decide_eq_false (by omega)
   have h0N : ¬ (0 < s.size) := by omega
   have hm0 := hid (show m = 0 by omega)
   clear h0
   go_wp2_with fail
   go_loopw [6] (fun kv wr => ∃ k : Nat, kv = .int .i64 (k : Nat) ∧ k ≤ m ∧ Below w.heap.size w wr) (fun kv _ => 3 - (intOf kv).toNat)
   case atStart => exact ⟨0, rfl, by omega, hB1⟩
   case round =>
    clear hB1
    obtain ⟨k, rfl, hk, hB1⟩ := hrel
    have hkm := hid (show k = m by have := hm0.out; omega)
    have hg1 : decide ((k : Int) < 3) = true := decide_eq_true (by have := hm0.out; omega)
    have hg2 : decide ((k : Int) < (s.size : Int)) = false := decide_eq_false (by omega)
    have hg2N : ¬ (k < s.size) := by omega
    have hkW : IntKind.i64.wrap (k : Int) = (k : Int) := by rw [IntKind.wrap_i64]; omega
    go_wp2_with fail
    go_ret
    exact ⟨by have e := hkm.out; subst e; rfl, hB1⟩
  ·have h0I : decide ((0 : Int) < (s.size : Int)) = true := decide_eq_true (by omega)
   have HSC := hid (fun W => zjb s W hs)
   have hn0 := hid (z3i HD.out)
   go_wp2_with fail
   (with_reducible refine (HSC.out _).mono ?_)
   rintro e w2 ⟨c2, rfl, hb2⟩
   rw [hn0.out]
   have hB2 : Below w.heap.size w w2 := hB1.trans (hb2.mono hB1.size)
   clear hB1 hb2
   go_wp2_with fail
   go_loopw [6] (fun kv wr => ∃ k : Nat, kv = .int .i64 (k : Nat) ∧ k ≤ m ∧ Below w.heap.size w wr) (fun kv _ => 4 - (intOf kv).toNat)
   case atStart => exact ⟨0, rfl, by omega, hB2⟩
   case round =>
    clear hB2
    obtain ⟨k, rfl, hk, hB1⟩ := hrel
    have hkW : IntKind.i64.wrap (k : Int) = (k : Int) := by rw [IntKind.wrap_i64]; omega
    have hkW1 : IntKind.i64.wrap ((k : Int) + 1) = (k : Int) + 1 := by rw [IntKind.wrap_i64]; omega
    rcases Nat.lt_or_ge k 3 with hk3 | hk3
    ·have hg1 : decide ((k : Int) < 3) = true := decide_eq_true (by omega)
     rcases Nat.lt_or_ge k s.size with hks | hks
     ·have hg2 : decide ((k : Int) < (s.size : Int)) = true := decide_eq_true (by omega)
      have hks1 : (k : Int) + 1 ≤ (s.size : Int) := by omega
      have hk10 : (0 : Int) ≤ (k : Int) + 1 := by omega
      have hkT : ((k : Int) + 1).toNat = k + 1 := by omega
      have HX2 := hid (zww s (k + 1))
      have HPA := hid (fun W => z3o (s.extract 0 (k + 1)) W (by have := zf (s.extract 0 (k + 1)); rw [HX2.out, List.length_take, HL.out] at this; omega) (by have := zf (s.extract 0 (k + 1)); rw [HX2.out, List.length_take, HL.out] at this; omega))
      have HAL := hid (z0s HD.out (by rw [HL.out]; exact hks) hk)
      by_cases hkm : k < m
      ·have HOK := hid (fun ok (h : ok = true ↔ ze3 (nb (s.extract 0 (k + 1)))) => (show ok = true from h.2 (by rw [HX2.out]; exact HAL.out.2 hkm)))
       go_wp2_with (go_at_call 216; refine (HPA.out _).mono ?_; rintro e w3 ⟨ok, rfl, hok, hb3⟩; obtain rfl := HOK.out _ hok)
       have hB3 : Below w.heap.size w w3 := hB1.trans (hb3.mono hB1.size)
       go_roundw
       case rel => exact ⟨k + 1, by go_num, by omega, hB3⟩
       case measure => simp [intOf]; omega
      ·have HOK := hid (fun ok (h : ok = true ↔ ze3 (nb (s.extract 0 (k + 1)))) => (show ok = false from by
        cases ok
        ·rfl
        ·exact absurd (HAL.out.1 (by rw [← HX2.out]; exact h.1 rfl)) hkm))
       have hkm2 := hid (show k = m by omega)
       go_wp2_with (go_at_call 216; refine (HPA.out _).mono ?_; rintro e w3 ⟨ok, rfl, hok, hb3⟩; obtain rfl := HOK.out _ hok)
       have hB3 : Below w.heap.size w w3 := hB1.trans (hb3.mono hB1.size)
       go_ret
       exact ⟨by have e := hkm2.out; subst e; rfl, hB3⟩
     ·have hg2 : decide ((k : Int) < (s.size : Int)) = false := decide_eq_false (by omega)
      have hg2N : ¬ (k < s.size) := by omega
      have hkm2 := hid (show k = m by omega)
      go_wp2_with fail
      go_ret
      exact ⟨by have e := hkm2.out; subst e; rfl, hB1⟩
    ·have hg1 : decide ((k : Int) < 3) = false := decide_eq_false (by omega)
     have hg1N : ¬ (k < 3) := by omega
     have hkm2 := hid (show k = m by omega)
     go_wp2_with fail
     go_ret
     exact ⟨by have e := hkm2.out; subst e; rfl, hB1⟩
section
variable {l : List Nat} {k p : Nat}
theorem zwz (l : List Nat) (p i : Nat) : at_ (l.drop p) i = at_ l (p + i) := by unfold at_; rw [List.getElem?_drop]
theorem zkx (h : InS l k 0 p) (hc : ¬ (at_ l p < 32 ∨ at_ l p = 34 ∨ at_ l p = 92)) : ∀ j, p + j ≤ l.length → (∀ i, i < j → us (l.drop p) (i + 1) ≤ 7) → (∀ i, 0 < i → i < j → us (l.drop p) i ≠ 0) → InS l k (us (l.drop p) j) (p + j)
 | 0, _, _, _ => h
 | j + 1, h1, h2, h3 => by
   have ih := zkx h hc j (by omega) (fun i hi => h2 i (by omega)) (fun i a b => h3 i a (by omega))
   have e : us (l.drop p) (j + 1) = zaf (us (l.drop p) j) (at_ l (p + j)) := by rw [zx7, zwz]
   rw [e]
   refine zs1 ih (by omega) (fun hh => ?_) (by rw [← e]; exact h2 j (by omega))
   rcases Nat.eq_zero_or_pos j with h0 | h0
   ·subst h0; exact hc hh.2
   ·exact h3 j h0 (by omega) hh.1
theorem z0u {n : Nat} (h : InS l k 0 p) (hc : ¬ (at_ l p < 32 ∨ at_ l p = 34 ∨ at_ l p = 92)) (hl : zf4 (l.drop p) n) : InS l k 0 (p + n) ∧ p + n ≤ l.length := by
 obtain ⟨h1, h2, h3, h4, h5⟩ := hl
 rw [List.length_drop] at h3
 have := zkx h hc n (by omega) (fun i hi => by
  rcases Nat.lt_or_ge (i + 1) n with h6 | h6
  ·exact (h5 (i + 1) (by omega) h6).2
  ·have : i + 1 = n := by omega
   rw [this, h4]; omega) (fun i a b => (h5 i a b).1)
 rw [h4] at this
 exact ⟨this, by omega⟩
theorem z3q {m : Nat} (h : InS l k 0 p) (hp : p < l.length) (hc : ¬ (at_ l p < 32 ∨ at_ l p = 34 ∨ at_ l p = 92)) (hl : zhb (l.drop p) m) : Strg l k false (p + m) ∧ p + m ≤ l.length := by
 obtain ⟨h1, h2, h3, h4⟩ := hl
 rw [List.length_drop] at h2 h4
 have hin := zkx h hc m (by omega) (fun i hi => (h3 (i + 1) (by omega) (by omega)).2) (fun i a b => (h3 i a (by omega)).1)
 refine ⟨?_, by omega⟩
 rcases Nat.lt_or_ge (p + m) l.length with h5 | h5
 ·rcases h4 with h4 | h4
  ·omega
  ·rw [zx7, zwz] at h4
   refine zwl hin h5 (fun hh => ?_) (by omega)
   rcases Nat.eq_zero_or_pos m with h0 | h0
   ·subst h0; exact hc hh.2
   ·exact (h3 m h0 (Nat.le_refl _)).1 hh.1
 ·exact zo5 hin (by omega)
end
theorem ztv (s : ByteArray) (k : Nat) (w : World) (hk : k ≤ s.size) (hs : s.size ≤ 65536) :
  Calls Tryz.prog 179 #[.string s, .int .i64 (k : Nat)] w fun e w' => ∃ (k' : Nat) (ok : Bool), e = .returned (RR k' ok 0) ∧ Below w.heap.size w w' ∧ k' ≤ s.size ∧ ((at_ (nb s) k ≠ 34 ∧ ok = false ∧ k' = k) ∨ (at_ (nb s) k = 34 ∧ Strg (nb s) (k + 1) ok k')) := by
 have hll := zf s
 have HL := hid hll
 have hB0 := (Below.refl w.heap.size w).alloc (Nat.le_refl _) (.cells #[.int .i64 0, .bool false, .int .i64 0] 154)
 have hb0 : za (w.alloc (.cells #[.int .i64 0, .bool false, .int .i64 0] 154)) w.heap.size 154 (RC 0 false 0) := za.new w _ _
 have x1 := zg k (by omega)
 go_enter Tryz.func179, Tryz.ntmps179
 by_cases h34 : at_ (nb s) k = 34
 ·have hks : k < s.size := by rw [← hll]; exact zb3 (by omega)
  have HA := hid (zaz s k hks)
  have H34 := hid h34
  have hki : (k : Int) < (s.size : Int) := by omega
  have hge : decide ((k : Int) ≥ (s.size : Int)) = false := decide_eq_false (by omega)
  have hgeN : ¬ (s.size ≤ k) := by omega
  have hcI : ((s[k]).toNat : Int) = 34 := by have := HA.out; omega
  clear h34 hll
  go_wp2_with fail
  generalize hW0 : w.alloc (.cells #[.int .i64 0, .bool false, .int .i64 0] 154) = W0 at *
  clear hW0 hcI hge hgeN
  obtain ⟨r, hr⟩ : ∃ r, r = w.heap.size := ⟨_, rfl⟩
  rw [← hr] at hb0
  rw [← hr]
  have HR := hid hr
  clear hr
  obtain ⟨p0, hp0⟩ : ∃ p0, p0 = k + 1 := ⟨_, rfl⟩
  have hp0I : (k : Int) + 1 = (p0 : Int) := by omega
  rw [hp0I]
  have HP0 := hid hp0
  clear hp0 hp0I x1 hki
  go_loopw [1] (fun av wr => ∃ p : Nat, av = .int .i64 (p : Nat) ∧ p ≤ s.size ∧ InS (nb s) (k + 1) 0 p ∧ Below w.heap.size w wr ∧ za wr r 154 (RC 0 false 0)) (fun av _ => s.size - (intOf av).toNat)
  case atStart => exact ⟨p0, rfl, by rw [HP0.out]; omega, by rw [HP0.out]; exact fun q kk => R.refl (by rw [HL.out]; omega), hB0, hb0⟩
  case round =>
   clear hB0 hb0 HP0
   obtain ⟨p, rfl, hp, hin, hB, hb⟩ := hrel
   have HIN := hid hin
   have hrs := hb.lt
   obtain ⟨c0, c1, c2, f0, f1, f2⟩ := zm hb
   clear hin
   rcases Nat.lt_or_ge p s.size with h | h
   ·have hpi : (p : Int) < (s.size : Int) := by omega
    have hpi2 : decide ((p : Int) < (s.size : Int)) = true := decide_eq_true hpi
    have HAp := hid (zaz s p h)
    have HPL := hid (show p < (nb s).length by rw [HL.out]; exact h)
    have hlt := UInt8.toNat_lt s[p]
    have x1 := zg p (by omega)
    by_cases e34 : (s[p]).toNat = 34
    ·have eI : ((s[p]).toNat : Int) = 34 := by omega
     have HE := hid (zwi HIN.out (by rw [HAp.out]; exact e34))
     have hp1I : (p : Int) + 1 = ((p + 1 : Nat) : Int) := by omega
     have HQ := hid hp1I
     clear e34 hp1I
     go_wp2_with fail
     refine zt (x := p + 1) (ok := true) (d := 0) rfl rfl rfl (by rw [HQ.out]; exact zx hb _ _ _) ?_
     exact ⟨p + 1, true, rfl, zn hB (by rw [HR.out]; exact Nat.le_refl _) _ _ _, h, Or.inr ⟨H34.out, HE.out⟩⟩
    ·have e34I : (((s[p]).toNat : Int) == 34) = false := by rw [beq_eq_false_iff_ne]; omega
     by_cases e32 : (s[p]).toNat < 32
     ·have eI : decide (((s[p]).toNat : Int) < 32) = true := decide_eq_true (by omega)
      have HE := hid (zwj HIN.out HPL.out (by rw [HAp.out]; exact e32))
      clear e34
      go_wp2_with (go_at_call 177; refine (zav p _).mono ?_; rintro e w2 ⟨rfl, hB2⟩; unfold RR RC; have hb2 : za w2 r 154 (RC 0 false 0) := za.below hb hB2; obtain ⟨c0, c1, c2, f0, f1, f2⟩ := zm hb2)
      refine zt rfl rfl rfl (zx hb2 _ _ _) ?_
      exact ⟨p, false, rfl, zn (hB.trans (hB2.mono hB.size)) (by rw [HR.out]; exact Nat.le_refl _) _ _ _, hp, Or.inr ⟨H34.out, HE.out⟩⟩
     ·have e32I : decide (((s[p]).toNat : Int) < 32) = false := decide_eq_false (by omega)
      by_cases e92 : (s[p]).toNat = 92
      ·have e92I : ((s[p]).toNat : Int) = 92 := by omega
       have H92 := hid (show at_ (nb s) p = 92 by rw [HAp.out]; exact e92)
       obtain ⟨p1, hp1⟩ : ∃ p1, p1 = p + 1 := ⟨_, rfl⟩
       have hp1I : (p : Int) + 1 = (p1 : Int) := by omega
       have hp1W : IntKind.i64.wrap (p1 : Int) = (p1 : Int) := by rw [IntKind.wrap_i64]; omega
       have RE := hid (fun W => zvj s p1 W (by omega) hs)
       have HP1 := hid hp1
       clear e34 e32 e92 hp1
       go_wp2_with fail
       (with_reducible refine (RE.out _).mono ?_)
       rintro e w2 ⟨k2, ok2, rfl, hB2, hk2, hes⟩
       unfold RR RC
       rw [HP1.out] at hes
       have hst := hid (zwk HIN.out H92.out hes)
       have HM := hid (show p < k2 by have := (hes L.start false).le.1; omega)
       clear hes
       have hb2 : za w2 r 154 (RC 0 false 0) := za.below hb hB2
       have hBB2 := hB.trans (hB2.mono hB.size)
       have hr2 := hb2.lt
       clear hB2 c0 c1 c2 f0 f1 f2 hB hb hrs
       obtain ⟨c0, c1, c2, f0, f1, f2⟩ := zm hb2
       cases ok2
       ·rcases hst.out with ⟨h, _⟩ | ⟨_, hst2⟩
        ·cases h
        ·have HS2 := hid hst2
         clear hst2
         go_wp2_with fail
         refine zt rfl rfl rfl ((zx hb2 _ _ _).alloc _) ?_
         exact ⟨k2, false, rfl, (zn hBB2 (by rw [HR.out]; exact Nat.le_refl _) _ _ _).alloc (by simp; have := HR.out; omega) _, hk2, Or.inr ⟨H34.out, HS2.out⟩⟩
       ·rcases hst.out with ⟨_, hst2⟩ | ⟨h, _⟩
        ·have HS2 := hid hst2
         clear hst2
         go_wp2_with fail
         go_roundw
         case rel => exact ⟨k2, rfl, hk2, HS2.out, hBB2.alloc hBB2.size _, hb2.alloc _⟩
         case measure => have := HM.out; simp [intOf]; omega
        ·cases h
      ·have e92I : (((s[p]).toNat : Int) == 92) = false := by rw [beq_eq_false_iff_ne]; omega
       have HC := hid (show ¬ (at_ (nb s) p < 32 ∨ at_ (nb s) p = 34 ∨ at_ (nb s) p = 92) by rw [HAp.out]; omega)
       have HX := hid (zwy s p)
       have HSC := hid (fun W => zjb (s.extract p s.size) W (by have := zf (s.extract p s.size); rw [HX.out, List.length_drop, HL.out] at this; omega))
       have HSP := hid (zja (l := (nb s).drop p) (by rw [List.length_drop]; have := HPL.out; omega))
       clear e34 e32 e92
       go_wp2_with fail
       (with_reducible refine (HSC.out _).mono ?_)
       rintro e w2 ⟨c2, rfl, hB2⟩
       rw [HX.out]
       have hb2 : za w2 r 154 (RC 0 false 0) := za.below hb hB2
       have hBB2 := hB.trans (hB2.mono hB.size)
       clear hB2 c0 c1 f0 f1 f2 hB hb hrs
       rcases HSP.out with ⟨e0, m, hd⟩ | hl
       ·rw [e0]
        have HD := hid (z3q HIN.out HPL.out HC.out hd)
        have hm3 := hd.1
        have hd4 := z0t hd
        obtain ⟨q, hq⟩ : ∃ q, q = p + m := ⟨_, rfl⟩
        have hqI : (p : Int) + (m : Int) = (q : Int) := by omega
        have hqW : IntKind.i64.wrap (q : Int) = (q : Int) := by rw [IntKind.wrap_i64]; omega
        have HQ := hid hq
        have HLV := hid (fun W b (hb : (s.extract p b).size ≤ 65536) (h : nb (s.extract p b) = ((nb s).drop p).take 4) => z3p (s.extract p b) m W hb (by rw [h]; exact hd4))
        clear hd hd4 hq e0
        go_wp2_with fail
        obtain ⟨b, hb⟩ : ∃ b, b = (min ((p : Int) + 4) (s.size : Int)).toNat := ⟨_, rfl⟩
        have hbb : b = min (p + 4) s.size := by omega
        have hnb : nb (s.extract p b) = ((nb s).drop p).take 4 := by
         rw [zgi, hbb]
         rcases Nat.lt_or_ge s.size (p + 4) with h5 | h5
         ·rw [Nat.min_eq_right (by omega), List.take_of_length_le (by rw [List.length_drop, HL.out]; omega), List.take_of_length_le (by rw [List.length_drop, HL.out]; omega)]
         ·rw [Nat.min_eq_left h5, show p + 4 - p = 4 from by omega]
        rw [← hb]
        have hsz : (s.extract p b).size ≤ 65536 := by have := zf (s.extract p b); rw [hnb, List.length_take] at this; omega
        clear hb hbb
        (with_reducible refine (HLV.out _ b hsz hnb).mono ?_)
        rintro e w3 ⟨rfl, hB3⟩
        clear hnb hsz
        have hb3 : za w3 r 154 (RC 0 false 0) := za.below hb2 hB3
        have hBB3 := hBB2.trans (hB3.mono hBB2.size)
        clear hB3
        go_wp2_with fail
        (with_reducible refine (zav q _).mono ?_)
        rintro e w4 ⟨rfl, hB4⟩
        unfold RR RC
        have hb4 : za w4 r 154 (RC 0 false 0) := za.below hb3 hB4
        obtain ⟨c0, c1, c2, f0, f1, f2⟩ := zm hb4
        go_wp2_with fail
        refine zt rfl rfl rfl (zx hb4 _ _ _) ?_
        exact ⟨q, false, rfl, zn (hBB3.trans (hB4.mono hBB3.size)) (by rw [HR.out]; exact Nat.le_refl _) _ _ _, by rw [HQ.out]; have := HD.out.2; rw [HL.out] at this; exact this, Or.inr ⟨H34.out, by rw [HQ.out]; exact HD.out.1⟩⟩
       ·have HLS := hid (z0u HIN.out HC.out hl)
        have hn1 := hl.1
        have hn4 := hl.2.1
        clear hl
        generalize scN ((nb s).drop p) = n at *
        have hn0 : ((n : Int) == 0) = false := by rw [beq_eq_false_iff_ne]; omega
        obtain ⟨q, hq⟩ : ∃ q, q = p + n := ⟨_, rfl⟩
        have hqI : (p : Int) + (n : Int) = (q : Int) := by omega
        have hqW : IntKind.i64.wrap (q : Int) = (q : Int) := by rw [IntKind.wrap_i64]; omega
        have HQ := hid hq
        have HL2 := HLS.out.2
        rw [HL.out] at HL2
        clear hq
        go_wp2_with fail
        go_roundw
        case rel => exact ⟨q, rfl, by have := HQ.out; omega, by rw [HQ.out]; exact HLS.out.1, hBB2, hb2⟩
        case measure => have := HQ.out; simp [intOf]; omega
   ·have hpi : decide ((p : Int) < (s.size : Int)) = false := decide_eq_false (by omega)
    have hpN : ¬ (p < s.size) := by omega
    have HE := hid (zo5 HIN.out (by rw [HL.out]; omega))
    go_wp2_with (go_at_call 177; refine (zav p _).mono ?_; rintro e w2 ⟨rfl, hB2⟩; unfold RR RC; have hb2 : za w2 r 154 (RC 0 false 0) := za.below hb hB2; obtain ⟨c0, c1, c2, f0, f1, f2⟩ := zm hb2)
    refine zt rfl rfl rfl (zx hb2 _ _ _) ?_
    exact ⟨p, false, rfl, zn (hB.trans (hB2.mono hB.size)) (by rw [HR.out]; exact Nat.le_refl _) _ _ _, hp, Or.inr ⟨H34.out, HE.out⟩⟩
 ·have H34 := hid h34
  clear h34
  rcases Nat.lt_or_ge k s.size with hks | hks
  ·have HA := hid (zaz s k hks)
   have hki : (k : Int) < (s.size : Int) := by omega
   have hge : decide ((k : Int) ≥ (s.size : Int)) = false := decide_eq_false (by omega)
   have hgeN : ¬ (s.size ≤ k) := by omega
   have hcI : (((s[k]).toNat : Int) != 34) = true := by rw [bne_iff_ne]; have := HA.out; have := H34.out; omega
   go_wp2_with fail
   (with_reducible refine (zav k _).mono ?_)
   rintro e w2 ⟨rfl, hB2⟩
   unfold RR RC
   have hb2 := za.below hb0 hB2
   obtain ⟨c0, c1, c2, f0, f1, f2⟩ := zm hb2
   go_wp2_with fail
   refine zt rfl rfl rfl (zx hb2 _ _ _) ?_
   exact ⟨k, false, rfl, zn (hB0.trans (hB2.mono hB0.size)) (Nat.le_refl _) _ _ _, hk, Or.inl ⟨H34.out, rfl, rfl⟩⟩
  ·have hge : decide ((k : Int) ≥ (s.size : Int)) = true := decide_eq_true (by omega)
   go_wp2_with fail
   (with_reducible refine (zav k _).mono ?_)
   rintro e w2 ⟨rfl, hB2⟩
   unfold RR RC
   have hb2 := za.below hb0 hB2
   obtain ⟨c0, c1, c2, f0, f1, f2⟩ := zm hb2
   go_wp2_with fail
   refine zt rfl rfl rfl (zx hb2 _ _ _) ?_
   exact ⟨k, false, rfl, zn (hB0.trans (hB2.mono hB0.size)) (Nat.le_refl _) _ _ _, hk, Or.inl ⟨H34.out, rfl, rfl⟩⟩
open Go.RowKit Go.Shelf L
theorem zvk (s : ByteArray) (k : Nat) (w : World) (hk : k < s.size) (hs : s.size ≤ 65536) (hnumb : numb (at_ (nb s) k)) :
  Calls Tryz.prog 181 #[.string s, .int .i64 (k : Nat)] w fun e w' => ∃ (k' : Nat) (ok : Bool), e = .returned (RR k' ok 0) ∧ Below w.heap.size w w' ∧ k' ≤ s.size ∧ Num (nb s) k ok k' := by
 have hll := zf s
 have hB0 := (Below.refl w.heap.size w).alloc (Nat.le_refl _) (.cells #[.int .i64 0, .bool false, .int .i64 0] 154)
 have hb0 : za (w.alloc (.cells #[.int .i64 0, .bool false, .int .i64 0] 154)) w.heap.size 154 (RC 0 false 0) := za.new w _ _
 obtain ⟨W0, hW0⟩ : ∃ W0, W0 = w.alloc (.cells #[.int .i64 0, .bool false, .int .i64 0] 154) := ⟨_, rfl⟩
 rw [← hW0] at hB0 hb0
 have hsz : w.heap.size ≤ W0.heap.size := hB0.size
 obtain ⟨c0, c1, c2, f0, f1, f2⟩ := zm hb0
 obtain ⟨r, hr⟩ : ∃ r, r = w.heap.size := ⟨_, rfl⟩
 go_enter Tryz.func181, Tryz.ntmps181
 refine za7 (JA s r W0 (fun p => p = k)) ?_ ?_
 ·go_wp2_with fail
  rw [← hW0, ← hr]
  exact ⟨rfl, k, rfl, FA.mk ..⟩
 rw [← hr] at hb0 c0 c1 c2 f0 f1 f2
 have hrle : w.heap.size ≤ r := by omega
 clear hr hW0
 rintro a1 w1 ⟨rfl, p, rfl, f, rfl⟩
 unfold FA
 refine za7 (JA s r w1 (N1 (nb s) p)) ?_ ?_
 ·have HA := hid (zaz s p hk)
  have hi : (p : Int) < (s.size : Int) := by omega
  have hi2 : decide ((p : Int) < (s.size : Int)) = true := decide_eq_true hi
  obtain ⟨p2, hp2⟩ : ∃ p2, p2 = p + 1 := ⟨_, rfl⟩
  have hpI2 : (p : Int) + 1 = (p2 : Int) := by omega
  have hpW2 : IntKind.i64.wrap (p2 : Int) = (p2 : Int) := by rw [IntKind.wrap_i64]; omega
  by_cases h45 : (s[p]).toNat = 45
  ·have hN := hid (show N1 (nb s) p p2 from by rw [hp2]; exact N1.minus (by rw [hll]; omega) (by rw [HA.out]; exact h45))
   have hI : ((s[p]).toNat : Int) = 45 := by omega
   clear h45 hp2
   go_wp2_with fail
   exact ⟨rfl, p2, hN.out, FA.mk ..⟩
  ·have hN := hid (show N1 (nb s) p p from N1.plain (by rw [hll]; omega) (by rw [HA.out]; exact h45) hnumb)
   have hI : (((s[p]).toNat : Int) == 45) = false := by rw [beq_eq_false_iff_ne]; omega
   clear h45 hp2
   go_wp2_with fail
   exact ⟨rfl, p, hN.out, FA.mk ..⟩
 clear hk hnumb
 rintro a2 w2 ⟨rfl, q, hN, f, rfl⟩
 unfold FA
 have hql : q ≤ s.size := by obtain ⟨M, _, _, h⟩ := hN; rw [hll] at h; exact h
 have HN := hid hN
 clear hN
 refine za7 (JB s r w2 (N2 (nb s) p)) ?_ ?_
 ·go_wp2_with fail
  refine (zb2 s q _ hql hs).mono ?_
  rintro e w' ⟨n, rfl, rfl, hdg⟩
  go_wp2_with fail
  exact ⟨rfl, q, n, ⟨HN.out, hdg⟩, FB.mk ..⟩
 clear HN hql
 rintro a3 w3 ⟨rfl, q, n, hN, f, rfl⟩
 unfold FB
 have hql : q + n ≤ s.size := by have := hN.2.2.1; rw [hll] at this; exact this
 refine za7 (JB s r w3 (N3 (nb s) p)) ?_ ?_
 ·rcases Nat.eq_zero_or_pos n with h0 | h0
  ·have hN0 := hid (show Num (nb s) p false q from N2.none (by rw [h0] at hN; exact hN))
   have hz : ((n : Int) == 0) = true := by rw [beq_iff_eq]; omega
   clear hN h0
   go_wp2_with fail
   refine (zav q _).mono ?_
   rintro e w4 ⟨rfl, hB2⟩
   unfold RR RC
   have hb2 : za w4 r 154 (RC 0 false 0) := hb0.below hB2
   obtain ⟨c0, c1, c2, f0, f1, f2⟩ := zm hb2
   go_wp2_with fail
   refine zt rfl rfl rfl (zx hb2 _ _ _) ?_
   exact ⟨q, false, rfl, zn (hB0.trans (hB2.mono hsz)) hrle _ _ _, by omega, hN0.out⟩
  ·have hN0 := hid (show N3 (nb s) p q n from ⟨hN.1, hN.2, h0⟩)
   have hz : ((n : Int) == 0) = false := by rw [beq_eq_false_iff_ne]; omega
   clear hN
   go_wp2_with fail
   exact ⟨rfl, q, n, hN0.out, FB.mk ..⟩
 clear hN hql
 rintro a4 w4 ⟨rfl, q, n, hN, f, rfl⟩
 unfold FB
 have hqn := hN.2.1.2.1
 rw [hll] at hqn
 have hq : q < s.size := by have := hN.2.2; omega
 have HN := hid hN
 clear hN
 refine za7 (JB s r w4 (N4 (nb s) p)) ?_ ?_
 ·have HA := hid (zaz s q hq)
  have hi : (q : Int) < (s.size : Int) := by omega
  by_cases h48 : (s[q]).toNat = 48
  ·have hN0 := hid (HN.out.zero (by rw [HA.out]; exact h48))
   have hI : ((s[q]).toNat : Int) = 48 := by omega
   clear h48
   go_wp2_with fail
   exact ⟨rfl, q, 1, hN0.out, FB.mk ..⟩
  ·have hN0 := hid (HN.out.int (by rw [HA.out]; exact h48))
   have hI : (((s[q]).toNat : Int) == 48) = false := by rw [beq_eq_false_iff_ne]; omega
   clear h48
   go_wp2_with fail
   exact ⟨rfl, q, n, hN0.out, FB.mk ..⟩
 clear HN hqn hq
 rintro a5 w5 ⟨rfl, q, n, hN, f, rfl⟩
 unfold FB
 have hqn : q + n ≤ s.size := by obtain ⟨M, _, _, h⟩ := hN; rw [hll] at h; exact h
 have HN := hid hN
 clear hN
 refine za7 (JA s r w5 (N5 (nb s) p)) ?_ ?_
 ·obtain ⟨p2, hp2⟩ : ∃ p2, p2 = q + n := ⟨_, rfl⟩
  have hpI2 : (q : Int) + (n : Int) = (p2 : Int) := by omega
  have hpW2 : IntKind.i64.wrap (p2 : Int) = (p2 : Int) := by rw [IntKind.wrap_i64]; omega
  have hN0 := hid (show N5 (nb s) p p2 from by rw [hp2]; exact HN.out)
  clear hp2
  go_wp2_with fail
  exact ⟨rfl, p2, hN0.out, FA.mk ..⟩
 clear HN hqn
 rintro a6 w6 ⟨rfl, q, hN, f, rfl⟩
 unfold FA
 have hq : q ≤ s.size := by obtain ⟨M, _, _, h⟩ := hN; rw [hll] at h; exact h
 have HN := hid hN
 clear hN
 refine za7 (JA s r w6 (N6 (nb s) p)) ?_ ?_
 ·rcases Nat.lt_or_ge q s.size with h | h
  ·have HA := hid (zaz s q h)
   have hi : (q : Int) < (s.size : Int) := by omega
   have hi2 : decide ((q : Int) < (s.size : Int)) = true := decide_eq_true hi
   by_cases h46 : (s[q]).toNat = 46
   ·have hI : ((s[q]).toNat : Int) = 46 := by omega
    obtain ⟨p2, hp2⟩ : ∃ p2, p2 = q + 1 := ⟨_, rfl⟩
    have hpI2 : (q : Int) + 1 = (p2 : Int) := by omega
    have hpW2 : IntKind.i64.wrap (p2 : Int) = (p2 : Int) := by rw [IntKind.wrap_i64]; omega
    have hR := hid (show Rk (nb s) p 13 p2 from by rw [hp2]; exact HN.out.dot (by rw [HA.out]; exact h46))
    have hl2 : p2 ≤ s.size := by omega
    have HP2 := hid hp2
    clear h46 hp2
    go_wp2_with fail
    refine (zb2 s p2 _ hl2 hs).mono ?_
    rintro e w' ⟨n, rfl, rfl, hdg⟩
    rcases Nat.eq_zero_or_pos n with h0 | h0
    ·have hN0 := hid (show Num (nb s) p false p2 from z3f hR.out (by rw [h0] at hdg; exact hdg))
     have hz : ((n : Int) == 0) = true := by rw [beq_iff_eq]; omega
     clear hdg h0
     go_wp2_with fail
     refine (zav p2 _).mono ?_
     rintro e w7 ⟨rfl, hB2⟩
     unfold RR RC
     have hb2 : za w7 r 154 (RC 0 false 0) := hb0.below hB2
     obtain ⟨c0, c1, c2, f0, f1, f2⟩ := zm hb2
     go_wp2_with fail
     refine zt rfl rfl rfl (zx hb2 _ _ _) ?_
     exact ⟨p2, false, rfl, zn (hB0.trans (hB2.mono hsz)) hrle _ _ _, hl2, hN0.out⟩
    ·have hz : ((n : Int) == 0) = false := by rw [beq_eq_false_iff_ne]; omega
     have hpl := hdg.2.1
     rw [hll] at hpl
     obtain ⟨p3, hp3⟩ : ∃ p3, p3 = p2 + n := ⟨_, rfl⟩
     have hnW : IntKind.i64.wrap ((n : Int) + 1) = (n : Int) + 1 := by rw [IntKind.wrap_i64]; omega
     have hpI3 : (q : Int) + ((n : Int) + 1) = (p3 : Int) := by omega
     have hpW3 : IntKind.i64.wrap (p3 : Int) = (p3 : Int) := by rw [IntKind.wrap_i64]; omega
     have hN0 := hid (show N6 (nb s) p p3 from by rw [hp3]; exact z3g hR.out hdg h0)
     clear hdg hp3 hpl
     go_wp2_with fail
     exact ⟨rfl, p3, hN0.out, FA.mk ..⟩
   ·have hI : (((s[q]).toNat : Int) == 46) = false := by rw [beq_eq_false_iff_ne]; omega
    have hN0 := hid (HN.out.none (by rw [HA.out]; exact h46))
    clear h46
    go_wp2_with fail
    exact ⟨rfl, q, hN0.out, FA.mk ..⟩
  ·have hi2 : decide ((q : Int) < (s.size : Int)) = false := decide_eq_false (by omega)
   have hiN : ¬ (q < s.size) := by omega
   have hN0 := hid (HN.out.none (by rw [zcw (by rw [hll]; exact h)]; decide))
   go_wp2_with fail
   exact ⟨rfl, q, hN0.out, FA.mk ..⟩
 clear HN hq
 rintro a7 w7 ⟨rfl, q, hN, f, rfl⟩
 unfold FA
 have hq : q ≤ s.size := by obtain ⟨M, _, _, h⟩ := hN; rw [hll] at h; exact h
 have HN := hid hN
 clear hN
 refine za7 (JA s r w7 (Rk (nb s) p 5)) ?_ ?_
 ·rcases Nat.lt_or_ge q s.size with h | h
  ·have HA := hid (zaz s q h)
   have hi : (q : Int) < (s.size : Int) := by omega
   have hi2 : decide ((q : Int) < (s.size : Int)) = true := decide_eq_true hi
   by_cases he : (s[q]).toNat = 101 ∨ (s[q]).toNat = 69
   ·obtain ⟨p2, hp2⟩ : ∃ p2, p2 = q + 1 := ⟨_, rfl⟩
    have hpI2 : (q : Int) + 1 = (p2 : Int) := by omega
    have hpW2 : IntKind.i64.wrap (p2 : Int) = (p2 : Int) := by rw [IntKind.wrap_i64]; omega
    have hR := hid (show Rk (nb s) p 15 p2 from by rw [hp2]; exact HN.out.exp (by rw [HA.out]; exact he))
    have hl2 : p2 ≤ s.size := by omega
    clear hp2
    have hsg : (∃ p3, N8 (nb s) p p3 ∧ p3 ≤ s.size ∧ ((p3 = p2 + 1 ∧ ∃ h2 : p2 < s.size, ((s[p2]).toNat = 43 ∨ (s[p2]).toNat = 45)) ∨ (p3 = p2 ∧ ((∃ h2 : p2 < s.size, (s[p2]).toNat ≠ 43 ∧ (s[p2]).toNat ≠ 45) ∨ s.size ≤ p2)))) := by
     rcases Nat.lt_or_ge p2 s.size with h2 | h2
     ·by_cases hsn : (s[p2]).toNat = 43 ∨ (s[p2]).toNat = 45
      ·exact ⟨p2 + 1, z3h hR.out (by rw [zaz s p2 h2]; exact hsn), h2, Or.inl ⟨rfl, h2, hsn⟩⟩
      ·exact ⟨p2, zqj hR.out (by rw [zaz s p2 h2]; omega) (by rw [zaz s p2 h2]; omega), hl2, Or.inr ⟨rfl, Or.inl ⟨h2, by omega, by omega⟩⟩⟩
     ·exact ⟨p2, zqj hR.out (by rw [zcw (by rw [hll]; exact h2)]; decide) (by rw [zcw (by rw [hll]; exact h2)]; decide), hl2, Or.inr ⟨rfl, Or.inr h2⟩⟩
    obtain ⟨p3, h8, hl3, hcs⟩ := hsg
    have H8 := hid h8
    have HF : ∀ n, Dg (nb s) p3 (p3 + n) → 0 < n → Rk (nb s) p 5 (p3 + n) := fun n hd hn => H8.out.some_ hd hn
    have HF0 : Dg (nb s) p3 (p3 + 0) → Num (nb s) p false p3 := fun hd => H8.out.none hd
    have HFH := hid (And.intro HF HF0)
    have hpW3 : IntKind.i64.wrap (p3 : Int) = (p3 : Int) := by rw [IntKind.wrap_i64]; omega
    clear h8 HF HF0
    rcases hcs with ⟨e3, h2, hsn⟩ | ⟨e3, ⟨h2, hsn1, hsn2⟩ | hout⟩
    ·have hpI3 : (p2 : Int) + 1 = (p3 : Int) := by omega
     have hi3 : (p2 : Int) < (s.size : Int) := by omega
     have hi4 : decide ((p2 : Int) < (s.size : Int)) = true := decide_eq_true hi3
     clear e3
     rcases he with he | he
     ·have heI : ((s[q]).toNat : Int) = 101 := by omega
      clear he
      rcases hsn with hsn | hsn
      ·have hsI : ((s[p2]).toNat : Int) = 43 := by omega
       clear hsn
       go_wp2_with fail
       refine (zb2 s p3 _ hl3 hs).mono ?_
       rintro e w' ⟨n, rfl, rfl, hdg⟩
       rcases Nat.eq_zero_or_pos n with h0 | h0
       ·have hN0 := hid (show Num (nb s) p false p3 from HFH.out.2 (by rw [h0] at hdg; exact hdg))
        have hz : ((n : Int) == 0) = true := by rw [beq_iff_eq]; omega
        clear hdg h0
        go_wp2_with fail
        refine (zav p3 _).mono ?_
        rintro e w8 ⟨rfl, hB2⟩
        unfold RR RC
        have hb2 : za w8 r 154 (RC 0 false 0) := hb0.below hB2
        obtain ⟨c0, c1, c2, f0, f1, f2⟩ := zm hb2
        go_wp2_with fail
        refine zt rfl rfl rfl (zx hb2 _ _ _) ?_
        exact ⟨p3, false, rfl, zn (hB0.trans (hB2.mono hsz)) hrle _ _ _, hl3, hN0.out⟩
       ·have hz : ((n : Int) == 0) = false := by rw [beq_eq_false_iff_ne]; omega
        have hpl := hdg.2.1
        rw [hll] at hpl
        obtain ⟨p4, hp4⟩ : ∃ p4, p4 = p3 + n := ⟨_, rfl⟩
        have hpI4 : (p3 : Int) + (n : Int) = (p4 : Int) := by omega
        have hpW4 : IntKind.i64.wrap (p4 : Int) = (p4 : Int) := by rw [IntKind.wrap_i64]; omega
        have hN0 := hid (show Rk (nb s) p 5 p4 from by rw [hp4]; exact HFH.out.1 n hdg h0)
        clear hdg hp4 hpl
        go_wp2_with fail
        exact ⟨rfl, p4, hN0.out, FA.mk ..⟩
      ·have hsI : ((s[p2]).toNat : Int) = 45 := by omega
       clear hsn
       go_wp2_with fail
       refine (zb2 s p3 _ hl3 hs).mono ?_
       rintro e w' ⟨n, rfl, rfl, hdg⟩
       rcases Nat.eq_zero_or_pos n with h0 | h0
       ·have hN0 := hid (show Num (nb s) p false p3 from HFH.out.2 (by rw [h0] at hdg; exact hdg))
        have hz : ((n : Int) == 0) = true := by rw [beq_iff_eq]; omega
        clear hdg h0
        go_wp2_with fail
        refine (zav p3 _).mono ?_
        rintro e w8 ⟨rfl, hB2⟩
        unfold RR RC
        have hb2 : za w8 r 154 (RC 0 false 0) := hb0.below hB2
        obtain ⟨c0, c1, c2, f0, f1, f2⟩ := zm hb2
        go_wp2_with fail
        refine zt rfl rfl rfl (zx hb2 _ _ _) ?_
        exact ⟨p3, false, rfl, zn (hB0.trans (hB2.mono hsz)) hrle _ _ _, hl3, hN0.out⟩
       ·have hz : ((n : Int) == 0) = false := by rw [beq_eq_false_iff_ne]; omega
        have hpl := hdg.2.1
        rw [hll] at hpl
        obtain ⟨p4, hp4⟩ : ∃ p4, p4 = p3 + n := ⟨_, rfl⟩
        have hpI4 : (p3 : Int) + (n : Int) = (p4 : Int) := by omega
        have hpW4 : IntKind.i64.wrap (p4 : Int) = (p4 : Int) := by rw [IntKind.wrap_i64]; omega
        have hN0 := hid (show Rk (nb s) p 5 p4 from by rw [hp4]; exact HFH.out.1 n hdg h0)
        clear hdg hp4 hpl
        go_wp2_with fail
        exact ⟨rfl, p4, hN0.out, FA.mk ..⟩
     ·have heI : ((s[q]).toNat : Int) = 69 := by omega
      clear he
      rcases hsn with hsn | hsn
      ·have hsI : ((s[p2]).toNat : Int) = 43 := by omega
       clear hsn
       go_wp2_with fail
       refine (zb2 s p3 _ hl3 hs).mono ?_
       rintro e w' ⟨n, rfl, rfl, hdg⟩
       rcases Nat.eq_zero_or_pos n with h0 | h0
       ·have hN0 := hid (show Num (nb s) p false p3 from HFH.out.2 (by rw [h0] at hdg; exact hdg))
        have hz : ((n : Int) == 0) = true := by rw [beq_iff_eq]; omega
        clear hdg h0
        go_wp2_with fail
        refine (zav p3 _).mono ?_
        rintro e w8 ⟨rfl, hB2⟩
        unfold RR RC
        have hb2 : za w8 r 154 (RC 0 false 0) := hb0.below hB2
        obtain ⟨c0, c1, c2, f0, f1, f2⟩ := zm hb2
        go_wp2_with fail
        refine zt rfl rfl rfl (zx hb2 _ _ _) ?_
        exact ⟨p3, false, rfl, zn (hB0.trans (hB2.mono hsz)) hrle _ _ _, hl3, hN0.out⟩
       ·have hz : ((n : Int) == 0) = false := by rw [beq_eq_false_iff_ne]; omega
        have hpl := hdg.2.1
        rw [hll] at hpl
        obtain ⟨p4, hp4⟩ : ∃ p4, p4 = p3 + n := ⟨_, rfl⟩
        have hpI4 : (p3 : Int) + (n : Int) = (p4 : Int) := by omega
        have hpW4 : IntKind.i64.wrap (p4 : Int) = (p4 : Int) := by rw [IntKind.wrap_i64]; omega
        have hN0 := hid (show Rk (nb s) p 5 p4 from by rw [hp4]; exact HFH.out.1 n hdg h0)
        clear hdg hp4 hpl
        go_wp2_with fail
        exact ⟨rfl, p4, hN0.out, FA.mk ..⟩
      ·have hsI : ((s[p2]).toNat : Int) = 45 := by omega
       clear hsn
       go_wp2_with fail
       refine (zb2 s p3 _ hl3 hs).mono ?_
       rintro e w' ⟨n, rfl, rfl, hdg⟩
       rcases Nat.eq_zero_or_pos n with h0 | h0
       ·have hN0 := hid (show Num (nb s) p false p3 from HFH.out.2 (by rw [h0] at hdg; exact hdg))
        have hz : ((n : Int) == 0) = true := by rw [beq_iff_eq]; omega
        clear hdg h0
        go_wp2_with fail
        refine (zav p3 _).mono ?_
        rintro e w8 ⟨rfl, hB2⟩
        unfold RR RC
        have hb2 : za w8 r 154 (RC 0 false 0) := hb0.below hB2
        obtain ⟨c0, c1, c2, f0, f1, f2⟩ := zm hb2
        go_wp2_with fail
        refine zt rfl rfl rfl (zx hb2 _ _ _) ?_
        exact ⟨p3, false, rfl, zn (hB0.trans (hB2.mono hsz)) hrle _ _ _, hl3, hN0.out⟩
       ·have hz : ((n : Int) == 0) = false := by rw [beq_eq_false_iff_ne]; omega
        have hpl := hdg.2.1
        rw [hll] at hpl
        obtain ⟨p4, hp4⟩ : ∃ p4, p4 = p3 + n := ⟨_, rfl⟩
        have hpI4 : (p3 : Int) + (n : Int) = (p4 : Int) := by omega
        have hpW4 : IntKind.i64.wrap (p4 : Int) = (p4 : Int) := by rw [IntKind.wrap_i64]; omega
        have hN0 := hid (show Rk (nb s) p 5 p4 from by rw [hp4]; exact HFH.out.1 n hdg h0)
        clear hdg hp4 hpl
        go_wp2_with fail
        exact ⟨rfl, p4, hN0.out, FA.mk ..⟩
    ·subst e3
     have hi3 : (p3 : Int) < (s.size : Int) := by omega
     have hi4 : decide ((p3 : Int) < (s.size : Int)) = true := decide_eq_true hi3
     have hs43 : (((s[p3]).toNat : Int) == 43) = false := by rw [beq_eq_false_iff_ne]; omega
     have hs45 : (((s[p3]).toNat : Int) == 45) = false := by rw [beq_eq_false_iff_ne]; omega
     clear hsn1 hsn2
     rcases he with he | he
     ·have heI : ((s[q]).toNat : Int) = 101 := by omega
      clear he
      go_wp2_with fail
      refine (zb2 s p3 _ hl3 hs).mono ?_
      rintro e w' ⟨n, rfl, rfl, hdg⟩
      rcases Nat.eq_zero_or_pos n with h0 | h0
      ·have hN0 := hid (show Num (nb s) p false p3 from HFH.out.2 (by rw [h0] at hdg; exact hdg))
       have hz : ((n : Int) == 0) = true := by rw [beq_iff_eq]; omega
       clear hdg h0
       go_wp2_with fail
       refine (zav p3 _).mono ?_
       rintro e w8 ⟨rfl, hB2⟩
       unfold RR RC
       have hb2 : za w8 r 154 (RC 0 false 0) := hb0.below hB2
       obtain ⟨c0, c1, c2, f0, f1, f2⟩ := zm hb2
       go_wp2_with fail
       refine zt rfl rfl rfl (zx hb2 _ _ _) ?_
       exact ⟨p3, false, rfl, zn (hB0.trans (hB2.mono hsz)) hrle _ _ _, hl3, hN0.out⟩
      ·have hz : ((n : Int) == 0) = false := by rw [beq_eq_false_iff_ne]; omega
       have hpl := hdg.2.1
       rw [hll] at hpl
       obtain ⟨p4, hp4⟩ : ∃ p4, p4 = p3 + n := ⟨_, rfl⟩
       have hpI4 : (p3 : Int) + (n : Int) = (p4 : Int) := by omega
       have hpW4 : IntKind.i64.wrap (p4 : Int) = (p4 : Int) := by rw [IntKind.wrap_i64]; omega
       have hN0 := hid (show Rk (nb s) p 5 p4 from by rw [hp4]; exact HFH.out.1 n hdg h0)
       clear hdg hp4 hpl
       go_wp2_with fail
       exact ⟨rfl, p4, hN0.out, FA.mk ..⟩
     ·have heI : ((s[q]).toNat : Int) = 69 := by omega
      clear he
      go_wp2_with fail
      refine (zb2 s p3 _ hl3 hs).mono ?_
      rintro e w' ⟨n, rfl, rfl, hdg⟩
      rcases Nat.eq_zero_or_pos n with h0 | h0
      ·have hN0 := hid (show Num (nb s) p false p3 from HFH.out.2 (by rw [h0] at hdg; exact hdg))
       have hz : ((n : Int) == 0) = true := by rw [beq_iff_eq]; omega
       clear hdg h0
       go_wp2_with fail
       refine (zav p3 _).mono ?_
       rintro e w8 ⟨rfl, hB2⟩
       unfold RR RC
       have hb2 : za w8 r 154 (RC 0 false 0) := hb0.below hB2
       obtain ⟨c0, c1, c2, f0, f1, f2⟩ := zm hb2
       go_wp2_with fail
       refine zt rfl rfl rfl (zx hb2 _ _ _) ?_
       exact ⟨p3, false, rfl, zn (hB0.trans (hB2.mono hsz)) hrle _ _ _, hl3, hN0.out⟩
      ·have hz : ((n : Int) == 0) = false := by rw [beq_eq_false_iff_ne]; omega
       have hpl := hdg.2.1
       rw [hll] at hpl
       obtain ⟨p4, hp4⟩ : ∃ p4, p4 = p3 + n := ⟨_, rfl⟩
       have hpI4 : (p3 : Int) + (n : Int) = (p4 : Int) := by omega
       have hpW4 : IntKind.i64.wrap (p4 : Int) = (p4 : Int) := by rw [IntKind.wrap_i64]; omega
       have hN0 := hid (show Rk (nb s) p 5 p4 from by rw [hp4]; exact HFH.out.1 n hdg h0)
       clear hdg hp4 hpl
       go_wp2_with fail
       exact ⟨rfl, p4, hN0.out, FA.mk ..⟩
    ·subst e3
     have hi4 : decide ((p3 : Int) < (s.size : Int)) = false := decide_eq_false (by omega)
     have hiN4 : ¬ (p3 < s.size) := by omega
     rcases he with he | he
     ·have heI : ((s[q]).toNat : Int) = 101 := by omega
      clear he
      go_wp2_with fail
      refine (zb2 s p3 _ hl3 hs).mono ?_
      rintro e w' ⟨n, rfl, rfl, hdg⟩
      rcases Nat.eq_zero_or_pos n with h0 | h0
      ·have hN0 := hid (show Num (nb s) p false p3 from HFH.out.2 (by rw [h0] at hdg; exact hdg))
       have hz : ((n : Int) == 0) = true := by rw [beq_iff_eq]; omega
       clear hdg h0
       go_wp2_with fail
       refine (zav p3 _).mono ?_
       rintro e w8 ⟨rfl, hB2⟩
       unfold RR RC
       have hb2 : za w8 r 154 (RC 0 false 0) := hb0.below hB2
       obtain ⟨c0, c1, c2, f0, f1, f2⟩ := zm hb2
       go_wp2_with fail
       refine zt rfl rfl rfl (zx hb2 _ _ _) ?_
       exact ⟨p3, false, rfl, zn (hB0.trans (hB2.mono hsz)) hrle _ _ _, hl3, hN0.out⟩
      ·have hz : ((n : Int) == 0) = false := by rw [beq_eq_false_iff_ne]; omega
       have hpl := hdg.2.1
       rw [hll] at hpl
       obtain ⟨p4, hp4⟩ : ∃ p4, p4 = p3 + n := ⟨_, rfl⟩
       have hpI4 : (p3 : Int) + (n : Int) = (p4 : Int) := by omega
       have hpW4 : IntKind.i64.wrap (p4 : Int) = (p4 : Int) := by rw [IntKind.wrap_i64]; omega
       have hN0 := hid (show Rk (nb s) p 5 p4 from by rw [hp4]; exact HFH.out.1 n hdg h0)
       clear hdg hp4 hpl
       go_wp2_with fail
       exact ⟨rfl, p4, hN0.out, FA.mk ..⟩
     ·have heI : ((s[q]).toNat : Int) = 69 := by omega
      clear he
      go_wp2_with fail
      refine (zb2 s p3 _ hl3 hs).mono ?_
      rintro e w' ⟨n, rfl, rfl, hdg⟩
      rcases Nat.eq_zero_or_pos n with h0 | h0
      ·have hN0 := hid (show Num (nb s) p false p3 from HFH.out.2 (by rw [h0] at hdg; exact hdg))
       have hz : ((n : Int) == 0) = true := by rw [beq_iff_eq]; omega
       clear hdg h0
       go_wp2_with fail
       refine (zav p3 _).mono ?_
       rintro e w8 ⟨rfl, hB2⟩
       unfold RR RC
       have hb2 : za w8 r 154 (RC 0 false 0) := hb0.below hB2
       obtain ⟨c0, c1, c2, f0, f1, f2⟩ := zm hb2
       go_wp2_with fail
       refine zt rfl rfl rfl (zx hb2 _ _ _) ?_
       exact ⟨p3, false, rfl, zn (hB0.trans (hB2.mono hsz)) hrle _ _ _, hl3, hN0.out⟩
      ·have hz : ((n : Int) == 0) = false := by rw [beq_eq_false_iff_ne]; omega
       have hpl := hdg.2.1
       rw [hll] at hpl
       obtain ⟨p4, hp4⟩ : ∃ p4, p4 = p3 + n := ⟨_, rfl⟩
       have hpI4 : (p3 : Int) + (n : Int) = (p4 : Int) := by omega
       have hpW4 : IntKind.i64.wrap (p4 : Int) = (p4 : Int) := by rw [IntKind.wrap_i64]; omega
       have hN0 := hid (show Rk (nb s) p 5 p4 from by rw [hp4]; exact HFH.out.1 n hdg h0)
       clear hdg hp4 hpl
       go_wp2_with fail
       exact ⟨rfl, p4, hN0.out, FA.mk ..⟩
   ·have hI : (((s[q]).toNat : Int) == 101) = false := by rw [beq_eq_false_iff_ne]; omega
    have hI2 : (((s[q]).toNat : Int) == 69) = false := by rw [beq_eq_false_iff_ne]; omega
    have hN0 := hid (HN.out.end_ (by rw [HA.out]; omega) (by rw [HA.out]; omega))
    clear he
    go_wp2_with fail
    exact ⟨rfl, q, hN0.out, FA.mk ..⟩
  ·have hi2 : decide ((q : Int) < (s.size : Int)) = false := decide_eq_false (by omega)
   have hiN : ¬ (q < s.size) := by omega
   have hN0 := hid (HN.out.end_ (by rw [zcw (by rw [hll]; exact h)]; decide) (by rw [zcw (by rw [hll]; exact h)]; decide))
   go_wp2_with fail
   exact ⟨rfl, q, hN0.out, FA.mk ..⟩
 clear HN hq
 rintro a8 w8 ⟨rfl, q, hN, f, rfl⟩
 unfold FA
 go_wp2_with fail
 refine zt rfl rfl rfl (zx hb0 _ _ _) ?_
 exact ⟨q, true, rfl, zn hB0 hrle _ _ _, by have := hN.2; rw [hll] at this; exact this, fun x => Goes.done (hN.1 x)⟩
def VAL (l : List Nat) (k : Nat) (ok : Bool) (k' d : Nat) : Prop := ∀ st m, st.length ≤ m → Goes l (Q 0 st m) k ok (Q 5 st (max m (st.length + d))) k'
def ITEM (l : List Nat) (t : Bool) (k : Nat) (ok : Bool) (k' d : Nat) : Prop := ∀ st m, st.length ≤ m → Goes l (Q (if t then 3 else 0) st m) k ok (Q 5 st (max m (st.length + d))) k'
def MANY (l : List Nat) (t : Bool) (k : Nat) (ok : Bool) (k' d : Nat) : Prop := ∀ st m, st.length + 1 ≤ m → Goes l (Q (if t then 2 else 1) (t :: st) m) k ok (Q 5 st (max m (st.length + d))) k'
def INM (l : List Nat) (t : Bool) (k p d : Nat) : Prop := ∀ st m, st.length + 1 ≤ m → R l (Q (if t then 2 else 1) (t :: st) m) k (Q (if t then 3 else 0) (t :: st) (max m (st.length + 1 + d))) p
def BEH (l : List Nat) (t : Bool) (k p d : Nat) : Prop := ∀ st m, st.length + 1 ≤ m → R l (Q (if t then 2 else 1) (t :: st) m) k (Q 5 (t :: st) (max m (st.length + 1 + d))) p
def endB (t : Bool) : Nat := if t then 125 else 93
section
variable {l : List Nat} {t ok : Bool} {k k1 k' p p' p2 d d' dd : Nat}
theorem Goes.to_ {q q' q'' : St} (h : Goes l q k ok q' k') (e : q' = q'') : Goes l q k ok q'' k' := e ▸ h
theorem Goes.any {q q' : St} (q'' : St) (h : Goes l q k false q' k') : Goes l q k false q'' k' := by
 rcases h with ⟨e, _⟩ | h
 ·cases e
 ·exact Or.inr h
theorem zio (h : Num l k ok k') : VAL l k ok k' 0 := fun st m hm => by
 have := h (Q 0 st m)
 refine Goes.to_ this ?_
 show Q 5 st m = _
 rw [Nat.add_zero, Nat.max_eq_left hm]
theorem zfd (hb : Blk l k k1) (h : VAL l k1 ok k' d) : VAL l k ok k' d := fun st m hm => Goes.pre (zcm (by omega) st m hb.1 hb.2.1 hb.2.2.1) (h st m hm)
theorem z6u (hk : k = l.length) : VAL l k false k d := fun st m hm => Goes.fail _ (R.refl (by omega)) (zcs (by omega) (fun h => by omega) (Bool.and_false _))
theorem ztw (hc : at_ l k = if t then 123 else 91) (h : MANY l t (k + 1) ok k' d) (hd : ok = true → 0 < d) : VAL l k ok k' d := fun st m hm => by
 have h1 : R l (Q 0 st m) k (Q (if t then 2 else 1) (t :: st) (max m (st.length + 1))) (k + 1) := by
  cases t
  ·exact open_arr hc
  ·exact zrr hc
 have h2 := Goes.pre h1 (h st (max m (st.length + 1)) (by omega))
 cases ok
 ·exact Goes.any _ h2
 ·refine Goes.to_ h2 ?_
  have := hd rfl
  rw [show max (max m (st.length + 1)) (st.length + d) = max m (st.length + d) from by omega]
theorem zky (h : VAL l k ok k' d) : k ≤ k' := ((h [] 0 (Nat.le_refl _)).le).1
theorem z3r (h : VAL l k ok k' d) : ITEM l false k ok k' d := h
def KEY (l : List Nat) (k : Nat) (ok : Bool) (k' : Nat) : Prop := ∀ st m, Goes l (Q 3 st m) k ok (Q 4 st m) k'
def COL (l : List Nat) (k : Nat) (ok : Bool) (k' : Nat) : Prop := ∀ st m, Goes l (Q 3 st m) k ok (Q 0 st m) k'
theorem z6v (hb : Blk l k k1) (h : (at_ l k1 ≠ 34 ∧ ok = false ∧ k' = k1) ∨ (at_ l k1 = 34 ∧ Strg l (k1 + 1) ok k')) : KEY l k ok k' := fun st m => by
 refine Goes.pre (zcm (by omega) st m hb.1 hb.2.1 hb.2.2.1) ?_
 rcases h with ⟨h1, rfl, rfl⟩ | ⟨h1, h2⟩
 ·exact Goes.fail _ (R.refl hb.2.1) (zrs hb.2.1 hb.nb h1)
 ·exact Goes.pre (zrt h1) (h2 (Q 3 st m) true)
theorem z6w (h : KEY l k true p) (hb : Blk l p k1) (h2 : Tk l [58] k1 k' ok) : COL l k ok k' := fun st m => by
 have h1 : R l (Q 3 st m) k (Q 4 st m) p := by
  rcases h st m with ⟨_, r⟩ | ⟨e, _⟩
  ·exact r
  ·cases e
 refine Goes.pre (h1.trans (zcm (by omega) st m hb.1 hb.2.1 hb.2.2.1)) ?_
 rcases zs2 h2 with ⟨rfl, rfl, h3⟩ | ⟨rfl, rfl, h3⟩
 ·exact Goes.done (zv0 h3)
 ·exact Goes.fail _ (R.refl hb.2.1) (zm3 hb.2.1 hb.nb h3)
theorem z3s (h : KEY l k false k') : ITEM l true k false k' d := fun st m hm => Goes.any _ (h st m)
theorem z3t (h : COL l k false k') : ITEM l true k false k' d := fun st m hm => Goes.any _ (h st m)
theorem zvl (h : COL l k true p) (hv : VAL l p ok k' d) : ITEM l true k ok k' d := fun st m hm => by
 have h1 : R l (Q 3 st m) k (Q 0 st m) p := by
  rcases h st m with ⟨_, r⟩ | ⟨e, _⟩
  ·exact r
  ·cases e
 exact Goes.pre h1 (hv st m hm)
theorem zpa (hb : Blk l k k1) (st : List Bool) (m : Nat) : R l (Q (if t then 2 else 1) (t :: st) m) k (Q (if t then 2 else 1) (t :: st) m) k1 := zcm (by cases t <;> simp) _ m hb.1 hb.2.1 hb.2.2.1
theorem zx8 (hb : Blk l k k1) (he : at_ l k1 = endB t) : MANY l t k true (k1 + 1) 1 := fun st m hm => by
 rw [Nat.max_eq_left hm]
 refine Goes.done ((zpa hb st m).step (zb3 (by rw [he]; cases t <;> decide)) ?_)
 cases t
 ·exact zlr false he
 ·exact zj1 true he
theorem zx9 (hb : Blk l k k1) (he : at_ l k1 ≠ endB t) : INM l t k k1 0 := fun st m hm => by
 rw [Nat.add_zero, Nat.max_eq_left hm]
 cases t
 ·exact (zpa hb st m).like (zm2 hb.nb he)
 ·exact (zpa hb st m).like (zlq hb.nb he)
theorem z0v (h : INM l t k p d) (hi : ITEM l t p true p' d') (hb : Blk l p' p2) : BEH l t k p2 (max d d') := fun st m hm => by
 have h1 := hi (t :: st) (max m (st.length + 1 + d)) (by rw [List.length_cons]; omega)
 have h2 : R l (Q (if t then 3 else 0) (t :: st) (max m (st.length + 1 + d))) p (Q 5 (t :: st) (max (max m (st.length + 1 + d)) ((t :: st).length + d'))) p' := by
  rcases h1 with ⟨_, r⟩ | ⟨e, _⟩
  ·exact r
  ·cases e
 have h3 := ((h st m hm).trans h2).trans (zcm (M := 5) (by omega) (t :: st) _ hb.1 hb.2.1 hb.2.2.1)
 rw [List.length_cons, show max (max m (st.length + 1 + d)) (st.length + 1 + d') = max m (st.length + 1 + max d d') from by omega] at h3
 exact h3
theorem zjl (h : INM l t k p d) (hi : ITEM l t p false p' d') : MANY l t k false p' dd := fun st m hm =>
 Goes.any _ (Goes.pre (h st m hm) (hi (t :: st) (max m (st.length + 1 + d)) (by rw [List.length_cons]; omega)))
theorem zya (h : BEH l t k p d) (he : at_ l p = endB t) : MANY l t k true (p + 1) (d + 1) := fun st m hm => by
 have h1 := (h st m hm).step (zb3 (by rw [he]; cases t <;> decide)) (zj2 (t := t) (by cases t; exact Or.inl ⟨he, rfl⟩; exact Or.inr ⟨he, rfl⟩))
 rw [show st.length + 1 + d = st.length + (d + 1) from by omega] at h1
 exact Goes.done h1
theorem zyb (h : BEH l t k p d) (hc : at_ l p = 44) : INM l t k (p + 1) d := fun st m hm => by
 refine (h st m hm).trans ?_
 cases t
 ·exact zv3 hc
 ·exact zv2 hc
theorem ztx (h : BEH l t k p d) (hp : p ≤ l.length) (hb : L.blank (at_ l p) = false) (h1 : at_ l p ≠ 44) (h2 : at_ l p ≠ endB t) : MANY l t k false p dd := fun st m hm =>
 Goes.fail _ (h st m hm) (ziu hp hb h1 (by
  rintro (⟨e, rfl⟩ | ⟨e, rfl⟩)
  ·exact h2 e
  ·exact h2 e))
end
end Go.Proofs.YtgpbpgpolpakjaaGreatDoor
