/- Proof text. -/
import Derived.Test.YtgpbpgpolpakjaaGreatDoorRefR
import Derived.Test.YtgpbpgpolpakjaaGreatDoorRefQ
set_option maxHeartbeats 4000000
set_option linter.unusedVariables false
set_option linter.unusedSimpArgs false
set_option maxRecDepth 100000
namespace Go.Proofs.YtgpbpgpolpakjaaGreatDoor
open Go.RowKit Go.Shelf L
def zht (s : ByteArray) (k : Nat) (P : Bool → Nat → Nat → Prop) (w : World) (e : Ending) (w' : World) : Prop := ∃ (k' : Nat) (ok : Bool) (d : Nat), e = .returned (RR k' ok d) ∧ Below w.heap.size w w' ∧ k' ≤ s.size ∧ k + d ≤ k' ∧ P ok k' d
def VC (s : ByteArray) (k : Nat) : Prop := ∀ w, Calls Tryz.prog 145 #[.string s, .int .i64 (k : Nat)] w (zht s k (fun ok k' d => VAL (nb s) k ok k' d) w)
def IC (s : ByteArray) (t : Bool) (k : Nat) : Prop := ∀ w, Calls Tryz.prog 205 #[.string s, .int .i64 (k : Nat), .int .u8 (endB t : Nat)] w (zht s k (fun ok k' d => ITEM (nb s) t k ok k' d) w)
def MC (s : ByteArray) (t : Bool) (k : Nat) : Prop := ∀ w, Calls Tryz.prog 180 #[.string s, .int .i64 (k : Nat), .int .u8 (endB t : Nat)] w (zht s k (fun ok k' d => MANY (nb s) t k ok k' d ∧ (ok = true → 0 < d)) w)
theorem zql (s : ByteArray) (k : Nat) (hk : k ≤ s.size) (hs : s.size ≤ 65536) (hM : ∀ t k', k < k' → k' ≤ s.size → MC s t k') : VC s k := by
 intro w
 have hll := zf s
 have HL := hid hll
 clear hll
 have hB0 := (Below.refl w.heap.size w).alloc (Nat.le_refl _) (.cells #[.int .i64 0, .bool false, .int .i64 0] 154)
 have hb0 : za (w.alloc (.cells #[.int .i64 0, .bool false, .int .i64 0] 154)) w.heap.size 154 (RC 0 false 0) := za.new w _ _
 have HM := hid hM
 clear hM
 go_enter Tryz.func145, Tryz.ntmps145
 go_wp2_with fail
 (with_reducible refine (zdz s k _ hk hs).mono ?_)
 rintro e w1 ⟨k1, rfl, rfl, hbk⟩
 generalize hW0 : w.alloc (.cells #[.int .i64 0, .bool false, .int .i64 0] 154) = W0 at *
 clear hW0
 obtain ⟨r, hr⟩ : ∃ r, r = w.heap.size := ⟨_, rfl⟩
 rw [← hr] at hb0
 rw [← hr]
 have HR := hid hr
 clear hr
 have hk1 : k ≤ k1 := hbk.1
 have hk2 : k1 ≤ s.size := by have := hbk.2.1; rw [HL.out] at this; exact this
 have hnbk := hid hbk.nb
 have HB := hid hbk
 clear hbk
 obtain ⟨c0, c1, c2, f0, f1, f2⟩ := zm hb0
 rcases Nat.lt_or_ge k1 s.size with h | h
 ·have hki : (k1 : Int) < (s.size : Int) := by omega
  have hge : decide ((k1 : Int) ≥ (s.size : Int)) = false := decide_eq_false (by omega)
  have hgeN : ¬ (s.size ≤ k1) := by omega
  have HA := hid (zaz s k1 h)
  have hlt := UInt8.toNat_lt s[k1]
  have x1 := zg k1 (by omega)
  by_cases e110 : (s[k1]).toNat = 110
  ·have eI : ((s[k1]).toNat : Int) = 110 := by omega
   have HC := hid (show at_ (nb s) k1 = 110 by rw [HA.out]; exact e110)
   clear e110
   go_wp2_with fail
   (with_reducible refine (zgv { data := #[110, 117, 108, 108] } s k1 _ hk2 hs zwn (by decide)).mono ?_)
   rintro e w2 ⟨k2, ok2, rfl, hB2, hk3, htk⟩
   unfold RR RC
   have htk := hid htk
   have hb2 : za w2 r 154 (RC 0 false 0) := za.below hb0 hB2
   clear c0 c1 c2 f0 f1 f2
   obtain ⟨c0, c1, c2, f0, f1, f2⟩ := zm hb2
   go_wp2_with fail
   have hV : VAL (nb s) k1 ok2 k2 0 := zio (zs5 htk.out (HC.out) (by rw [HL.out]; exact hk3))
   refine zt rfl rfl rfl (zx hb2 _ _ _) ?_
   exact ⟨k2, ok2, 0, rfl, zn (hB0.trans (hB2.mono hB0.size)) (by rw [HR.out]; exact Nat.le_refl _) _ _ _, hk3, by have := zky hV; omega, zfd HB.out hV⟩
  ·have e110I : (((s[k1]).toNat : Int) == 110) = false := by rw [beq_eq_false_iff_ne]; omega
   by_cases e116 : (s[k1]).toNat = 116
   ·have eI : ((s[k1]).toNat : Int) = 116 := by omega
    have HC := hid (show at_ (nb s) k1 = 116 by rw [HA.out]; exact e116)
    clear e116
    go_wp2_with fail
    (with_reducible refine (zgv { data := #[116, 114, 117, 101] } s k1 _ hk2 hs zwo (by decide)).mono ?_)
    rintro e w2 ⟨k2, ok2, rfl, hB2, hk3, htk⟩
    unfold RR RC
    have htk := hid htk
    have hb2 : za w2 r 154 (RC 0 false 0) := za.below hb0 hB2
    clear c0 c1 c2 f0 f1 f2
    obtain ⟨c0, c1, c2, f0, f1, f2⟩ := zm hb2
    go_wp2_with fail
    have hV : VAL (nb s) k1 ok2 k2 0 := zio (zs6 htk.out (HC.out) (by rw [HL.out]; exact hk3))
    refine zt rfl rfl rfl (zx hb2 _ _ _) ?_
    exact ⟨k2, ok2, 0, rfl, zn (hB0.trans (hB2.mono hB0.size)) (by rw [HR.out]; exact Nat.le_refl _) _ _ _, hk3, by have := zky hV; omega, zfd HB.out hV⟩
   ·have e116I : (((s[k1]).toNat : Int) == 116) = false := by rw [beq_eq_false_iff_ne]; omega
    by_cases e102 : (s[k1]).toNat = 102
    ·have eI : ((s[k1]).toNat : Int) = 102 := by omega
     have HC := hid (show at_ (nb s) k1 = 102 by rw [HA.out]; exact e102)
     clear e102
     go_wp2_with fail
     (with_reducible refine (zgv { data := #[102, 97, 108, 115, 101] } s k1 _ hk2 hs zs4 (by decide)).mono ?_)
     rintro e w2 ⟨k2, ok2, rfl, hB2, hk3, htk⟩
     unfold RR RC
     have htk := hid htk
     have hb2 : za w2 r 154 (RC 0 false 0) := za.below hb0 hB2
     clear c0 c1 c2 f0 f1 f2
     obtain ⟨c0, c1, c2, f0, f1, f2⟩ := zm hb2
     go_wp2_with fail
     have hV : VAL (nb s) k1 ok2 k2 0 := zio (zqa htk.out (HC.out) (by rw [HL.out]; exact hk3))
     refine zt rfl rfl rfl (zx hb2 _ _ _) ?_
     exact ⟨k2, ok2, 0, rfl, zn (hB0.trans (hB2.mono hB0.size)) (by rw [HR.out]; exact Nat.le_refl _) _ _ _, hk3, by have := zky hV; omega, zfd HB.out hV⟩
    ·have e102I : (((s[k1]).toNat : Int) == 102) = false := by rw [beq_eq_false_iff_ne]; omega
     by_cases e34 : (s[k1]).toNat = 34
     ·have eI : ((s[k1]).toNat : Int) = 34 := by omega
      have HC := hid (show at_ (nb s) k1 = 34 by rw [HA.out]; exact e34)
      clear e34
      go_wp2_with fail
      (with_reducible refine (ztv s k1 _ hk2 hs).mono ?_)
      rintro e w2 ⟨k2, ok2, rfl, hB2, hk3, htk⟩
      unfold RR RC
      have htk := hid htk
      have hb2 : za w2 r 154 (RC 0 false 0) := za.below hb0 hB2
      clear c0 c1 c2 f0 f1 f2
      obtain ⟨c0, c1, c2, f0, f1, f2⟩ := zm hb2
      go_wp2_with fail
      have hV : VAL (nb s) k1 ok2 k2 0 := zio (zwm HC.out (by rcases htk.out with ⟨h, _⟩ | ⟨_, h⟩; exact absurd HC.out h; exact h))
      refine zt rfl rfl rfl (zx hb2 _ _ _) ?_
      exact ⟨k2, ok2, 0, rfl, zn (hB0.trans (hB2.mono hB0.size)) (by rw [HR.out]; exact Nat.le_refl _) _ _ _, hk3, by have := zky hV; omega, zfd HB.out hV⟩
     ·have e34I : (((s[k1]).toNat : Int) == 34) = false := by rw [beq_eq_false_iff_ne]; omega
      by_cases e91 : (s[k1]).toNat = 91
      ·have eI : ((s[k1]).toNat : Int) = 91 := by omega
       have HC := hid (show at_ (nb s) k1 = 91 by rw [HA.out]; exact e91)
       obtain ⟨p1, hp1⟩ : ∃ p1, p1 = k1 + 1 := ⟨_, rfl⟩
       have hp1I : (k1 : Int) + 1 = (p1 : Int) := by omega
       have hp1W : IntKind.i64.wrap (p1 : Int) = (p1 : Int) := by rw [IntKind.wrap_i64]; omega
       have HMC := hid (show ∀ W, Calls Tryz.prog 180 #[.string s, .int .i64 (p1 : Nat), .int .u8 93] W (zht s p1 (fun ok k' d => MANY (nb s) false p1 ok k' d ∧ (ok = true → 0 < d)) W) from HM.out false p1 (by omega) (by omega))
       have HP1 := hid hp1
       clear e91 hp1 x1
       go_wp2_with fail
       (with_reducible refine (HMC.out _).mono ?_)
       rintro e w2 ⟨k2, ok2, d2, rfl, hB2, hk3, hkd, htk, hd0⟩
       unfold RR RC
       have htk := hid htk
       have hd0 := hid hd0
       have hb2 : za w2 r 154 (RC 0 false 0) := za.below hb0 hB2
       clear c0 c1 c2 f0 f1 f2
       obtain ⟨c0, c1, c2, f0, f1, f2⟩ := zm hb2
       go_wp2_with fail
       have hV : VAL (nb s) k1 ok2 k2 d2 := ztw (t := false) HC.out (by rw [← HP1.out]; exact htk.out) hd0.out
       refine zt rfl rfl rfl (zx hb2 _ _ _) ?_
       exact ⟨k2, ok2, d2, rfl, zn (hB0.trans (hB2.mono hB0.size)) (by rw [HR.out]; exact Nat.le_refl _) _ _ _, hk3, by have := HP1.out; omega, zfd HB.out hV⟩
      ·have e91I : (((s[k1]).toNat : Int) == 91) = false := by rw [beq_eq_false_iff_ne]; omega
       by_cases e123 : (s[k1]).toNat = 123
       ·have eI : ((s[k1]).toNat : Int) = 123 := by omega
        have HC := hid (show at_ (nb s) k1 = 123 by rw [HA.out]; exact e123)
        obtain ⟨p1, hp1⟩ : ∃ p1, p1 = k1 + 1 := ⟨_, rfl⟩
        have hp1I : (k1 : Int) + 1 = (p1 : Int) := by omega
        have hp1W : IntKind.i64.wrap (p1 : Int) = (p1 : Int) := by rw [IntKind.wrap_i64]; omega
        have HMC := hid (show ∀ W, Calls Tryz.prog 180 #[.string s, .int .i64 (p1 : Nat), .int .u8 125] W (zht s p1 (fun ok k' d => MANY (nb s) true p1 ok k' d ∧ (ok = true → 0 < d)) W) from HM.out true p1 (by omega) (by omega))
        have HP1 := hid hp1
        clear e123 hp1 x1
        go_wp2_with fail
        (with_reducible refine (HMC.out _).mono ?_)
        rintro e w2 ⟨k2, ok2, d2, rfl, hB2, hk3, hkd, htk, hd0⟩
        unfold RR RC
        have htk := hid htk
        have hd0 := hid hd0
        have hb2 : za w2 r 154 (RC 0 false 0) := za.below hb0 hB2
        clear c0 c1 c2 f0 f1 f2
        obtain ⟨c0, c1, c2, f0, f1, f2⟩ := zm hb2
        go_wp2_with fail
        have hV : VAL (nb s) k1 ok2 k2 d2 := ztw (t := true) HC.out (by rw [← HP1.out]; exact htk.out) hd0.out
        refine zt rfl rfl rfl (zx hb2 _ _ _) ?_
        exact ⟨k2, ok2, d2, rfl, zn (hB0.trans (hB2.mono hB0.size)) (by rw [HR.out]; exact Nat.le_refl _) _ _ _, hk3, by have := HP1.out; omega, zfd HB.out hV⟩
       ·have e123I : (((s[k1]).toNat : Int) == 123) = false := by rw [beq_eq_false_iff_ne]; omega
        have HNU := hid (show numb (at_ (nb s) k1) from ⟨hnbk.out, by rw [HA.out]; exact e91, by rw [HA.out]; exact e123, by rw [HA.out]; exact e34, by rw [HA.out]; exact e110, by rw [HA.out]; exact e116, by rw [HA.out]; exact e102⟩)
        clear e110 e116 e102 e34 e91 e123
        go_wp2_with fail
        (with_reducible refine (zvk s k1 _ h hs HNU.out).mono ?_)
        rintro e w2 ⟨k2, ok2, rfl, hB2, hk3, htk⟩
        unfold RR RC
        have htk := hid htk
        have hb2 : za w2 r 154 (RC 0 false 0) := za.below hb0 hB2
        clear c0 c1 c2 f0 f1 f2
        obtain ⟨c0, c1, c2, f0, f1, f2⟩ := zm hb2
        go_wp2_with fail
        have hV : VAL (nb s) k1 ok2 k2 0 := zio htk.out
        refine zt rfl rfl rfl (zx hb2 _ _ _) ?_
        exact ⟨k2, ok2, 0, rfl, zn (hB0.trans (hB2.mono hB0.size)) (by rw [HR.out]; exact Nat.le_refl _) _ _ _, hk3, by have := zky hV; omega, zfd HB.out hV⟩
 ·have hge : decide ((k1 : Int) ≥ (s.size : Int)) = true := decide_eq_true (by omega)
  go_wp2_with fail
  (with_reducible refine (zav k1 _).mono ?_)
  rintro e w2 ⟨rfl, hB2⟩
  unfold RR RC
  have hb2 : za w2 r 154 (RC 0 false 0) := za.below hb0 hB2
  clear c0 c1 c2 f0 f1 f2
  obtain ⟨c0, c1, c2, f0, f1, f2⟩ := zm hb2
  go_wp2_with fail
  refine zt rfl rfl rfl (zx hb2 _ _ _) ?_
  exact ⟨k1, false, 0, rfl, zn (hB0.trans (hB2.mono hB0.size)) (by rw [HR.out]; exact Nat.le_refl _) _ _ _, hk2, by omega, zfd HB.out (z6u (by rw [HL.out]; omega))⟩
theorem z3u (s : ByteArray) (k : Nat) (hk : k ≤ s.size) (hs : s.size ≤ 65536) (hV : VC s k) : IC s false k := by
 intro w
 change Calls Tryz.prog 205 #[.string s, .int .i64 (k : Nat), .int .u8 93] w _
 have hB0 := (Below.refl w.heap.size w).alloc (Nat.le_refl _) (.cells #[.int .i64 0, .bool false, .int .i64 0] 154)
 have hb0 : za (w.alloc (.cells #[.int .i64 0, .bool false, .int .i64 0] 154)) w.heap.size 154 (RC 0 false 0) := za.new w _ _
 have HV := hid (show ∀ W, Calls Tryz.prog 145 #[.string s, .int .i64 (k : Nat)] W (zht s k (fun ok k' d => VAL (nb s) k ok k' d) W) from hV)
 clear hV
 go_enter Tryz.func205, Tryz.ntmps205
 go_wp2_with fail
 (with_reducible refine (HV.out _).mono ?_)
 rintro e w2 ⟨k2, ok2, d2, rfl, hB2, hk3, hkd, htk⟩
 unfold RR RC
 have htk := hid htk
 have hb2 := za.below hb0 hB2
 obtain ⟨c0, c1, c2, f0, f1, f2⟩ := zm hb2
 go_wp2_with fail
 refine zt rfl rfl rfl (zx hb2 _ _ _) ?_
 exact ⟨k2, ok2, d2, rfl, zn (hB0.trans (hB2.mono hB0.size)) (Nat.le_refl _) _ _ _, hk3, hkd, z3r htk.out⟩
theorem z8j {l : List Nat} {k k' : Nat} {ok : Bool} (h : KEY l k ok k') : k ≤ k' := (h [] 0).le.1
theorem z8k {l : List Nat} {k k' : Nat} {ok : Bool} (h : COL l k ok k') : k ≤ k' := (h [] 0).le.1
theorem z3v (s : ByteArray) (k : Nat) (hk : k ≤ s.size) (hs : s.size ≤ 65536) (hV : ∀ k', k ≤ k' → k' ≤ s.size → VC s k') : IC s true k := by
 intro w
 change Calls Tryz.prog 205 #[.string s, .int .i64 (k : Nat), .int .u8 125] w _
 have HL := hid (zf s)
 have hB0 := (Below.refl w.heap.size w).alloc (Nat.le_refl _) (.cells #[.int .i64 0, .bool false, .int .i64 0] 154)
 have hb0 : za (w.alloc (.cells #[.int .i64 0, .bool false, .int .i64 0] 154)) w.heap.size 154 (RC 0 false 0) := za.new w _ _
 have HV := hid (show ∀ k', k ≤ k' → k' ≤ s.size → ∀ W, Calls Tryz.prog 145 #[.string s, .int .i64 (k' : Nat)] W (zht s k' (fun ok k'' d => VAL (nb s) k' ok k'' d) W) from hV)
 clear hV
 go_enter Tryz.func205, Tryz.ntmps205
 go_wp2_with fail
 (with_reducible refine (zdz s k _ hk hs).mono ?_)
 rintro e w1 ⟨k1, rfl, rfl, hbk⟩
 generalize hW0 : w.alloc (.cells #[.int .i64 0, .bool false, .int .i64 0] 154) = W0 at *
 clear hW0
 obtain ⟨r, hr⟩ : ∃ r, r = w.heap.size := ⟨_, rfl⟩
 rw [← hr] at hb0
 rw [← hr]
 have HR := hid hr
 clear hr
 have hk1 : k ≤ k1 := hbk.1
 have hk2 : k1 ≤ s.size := by have := hbk.2.1; rw [HL.out] at this; exact this
 have HB := hid hbk
 clear hbk
 go_wp2_with fail
 (with_reducible refine (ztv s k1 _ hk2 hs).mono ?_)
 rintro e w2 ⟨k2, ok2, rfl, hB2, hk3, hst⟩
 unfold RR RC
 have HK := hid (z6v HB.out hst)
 have hkk2 := z8j HK.out
 clear hst HB
 have hb2 : za w2 r 154 (RC 0 false 0) := za.below hb0 hB2
 have hBB2 := hB0.trans (hB2.mono hB0.size)
 clear hb0 hB0 hB2
 have hr2 := hb2.lt
 obtain ⟨c0, c1, c2, f0, f1, f2⟩ := zm hb2
 cases ok2
 ·go_wp2_with fail
  refine zt rfl rfl rfl ((zx hb2 _ _ _).alloc _) ?_
  exact ⟨k2, false, 0, rfl, (zn hBB2 (by rw [HR.out]; exact Nat.le_refl _) _ _ _).alloc (by simp; have := HR.out; omega) _, hk3, by omega, z3s HK.out⟩
 ·go_wp2_with fail
  (with_reducible refine (zdz s k2 _ hk3 hs).mono ?_)
  rintro e w3 ⟨k3, rfl, rfl, hbk⟩
  have hk4 : k3 ≤ s.size := by have := hbk.2.1; rw [HL.out] at this; exact this
  have HB := hid hbk
  clear hbk
  go_wp2_with fail
  (with_reducible refine (zgv { data := #[58] } s k3 _ hk4 hs zs7 (by decide)).mono ?_)
  rintro e w4 ⟨k5, ok5, rfl, hB4, hk5, htk⟩
  unfold RR RC
  have HC := hid (z6w HK.out HB.out htk)
  have hkk5 := z8k HC.out
  clear htk HB
  have hb4 : za w4 r 154 (RC 0 false 0) := za.below (hb2.alloc _) hB4
  have hBB3 := hBB2.alloc hBB2.size (.cells #[.int .i64 (k2 : Nat), .bool true, .int .i64 0] 154)
  have hBB4 := hBB3.trans (hB4.mono hBB3.size)
  clear hb2 hBB2 hBB3 hB4 hr2 c0 c1 c2 f0 f1 f2
  have hr4 := hb4.lt
  obtain ⟨c0, c1, c2, f0, f1, f2⟩ := zm hb4
  cases ok5
  ·go_wp2_with fail
   refine zt rfl rfl rfl ((zx hb4 _ _ _).alloc _) ?_
   exact ⟨k5, false, 0, rfl, (zn hBB4 (by rw [HR.out]; exact Nat.le_refl _) _ _ _).alloc (by simp; have := HR.out; omega) _, hk5, by omega, z3t HC.out⟩
  ·have HVV := hid (HV.out k5 (by omega) hk5)
   go_wp2_with fail
   (with_reducible refine (HVV.out _).mono ?_)
   rintro e w6 ⟨k6, ok6, d6, rfl, hB6, hk7, hkd, hvv⟩
   unfold RR RC
   have HM := hid (zvl HC.out hvv)
   clear hvv
   have hb6 : za w6 r 154 (RC 0 false 0) := za.below (hb4.alloc _) hB6
   have hBB5 := hBB4.alloc (by have := HR.out; omega) (.cells #[.int .i64 (k5 : Nat), .bool true, .int .i64 0] 154)
   have hBB6 := hBB5.trans (hB6.mono hBB5.size)
   clear hb4 hBB4 hBB5 hB6 hr4 c0 c1 c2 f0 f1 f2
   obtain ⟨c0, c1, c2, f0, f1, f2⟩ := zm hb6
   go_wp2_with fail
   refine zt rfl rfl rfl (zx hb6 _ _ _) ?_
   exact ⟨k6, ok6, d6, rfl, zn hBB6 (by rw [HR.out]; exact Nat.le_refl _) _ _ _, hk7, by omega, HM.out⟩
theorem z3w (s : ByteArray) (t : Bool) (k : Nat) (hk : k ≤ s.size) (hs : s.size ≤ 65536) (hI : ∀ k', k ≤ k' → k' ≤ s.size → IC s t k') : MC s t k := by
 intro w
 have HE := hid (show endB t = 93 ∨ endB t = 125 by cases t; exact Or.inl rfl; exact Or.inr rfl)
 unfold IC at hI
 obtain ⟨eb, heb⟩ : ∃ eb, eb = endB t := ⟨_, rfl⟩
 rw [← heb] at HE
 have HEB := hid heb
 change Calls Tryz.prog 180 #[.string s, .int .i64 (k : Nat), .int .u8 (endB t : Nat)] w _
 rw [← heb] at hI ⊢
 clear heb
 have hebb : eb < 256 := by have := HE.out; omega
 have HL := hid (zf s)
 have hB0 := (Below.refl w.heap.size w).alloc (Nat.le_refl _) (.cells #[.int .i64 0, .bool false, .int .i64 0] 154)
 have hb0 : za (w.alloc (.cells #[.int .i64 0, .bool false, .int .i64 0] 154)) w.heap.size 154 (RC 0 false 0) := za.new w _ _
 have HI := hid hI
 clear hI
 go_enter Tryz.func180, Tryz.ntmps180
 go_wp2_with fail
 (with_reducible refine (zdz s k _ hk hs).mono ?_)
 rintro e w1 ⟨k1, rfl, rfl, hbk⟩
 generalize hW0 : w.alloc (.cells #[.int .i64 0, .bool false, .int .i64 0] 154) = W0 at *
 clear hW0
 obtain ⟨r, hr⟩ : ∃ r, r = w.heap.size := ⟨_, rfl⟩
 rw [← hr] at hb0
 rw [← hr]
 have HR := hid hr
 clear hr
 have hk1 : k ≤ k1 := hbk.1
 have hk2 : k1 ≤ s.size := by have := hbk.2.1; rw [HL.out] at this; exact this
 have HB := hid hbk
 clear hbk
 have x1 := zg k1 (by omega)
 have hr0 := hb0.lt
 obtain ⟨c0, c1, c2, f0, f1, f2⟩ := zm hb0
 by_cases he : at_ (nb s) k1 = eb
 ·have h : k1 < s.size := by rw [← HL.out]; exact zb3 (by have := HE.out; omega)
  have hki : (k1 : Int) < (s.size : Int) := by omega
  have hki2 : decide ((k1 : Int) < (s.size : Int)) = true := decide_eq_true hki
  have HA := hid (zaz s k1 h)
  have eI : ((s[k1]).toNat : Int) = (eb : Int) := by have := HA.out; omega
  have HM := hid (zx8 HB.out (he.trans HEB.out))
  have HQ := hid (show (k1 : Int) + 1 = ((k1 + 1 : Nat) : Int) by omega)
  clear he
  go_wp2_with fail
  refine zt (x := k1 + 1) (ok := true) (d := 1) rfl rfl rfl (by rw [HQ.out]; exact zx hb0 _ _ _) ?_
  exact ⟨k1 + 1, true, 1, rfl, zn hB0 (by rw [HR.out]; exact Nat.le_refl _) _ _ _, h, by omega, HM.out, fun _ => by omega⟩
 ·have HM := hid (zx9 HB.out (fun e => he (e.trans HEB.out.symm)))
  have hWay : (∃ h : k1 < s.size, (((s[k1]).toNat : Int) == (eb : Int)) = false) ∨ s.size ≤ k1 := by
   rcases Nat.lt_or_ge k1 s.size with h | h
   ·refine Or.inl ⟨h, ?_⟩
    rw [beq_eq_false_iff_ne]
    have := zaz s k1 h
    omega
   ·exact Or.inr h
  clear he
  have hWay2 : (decide ((k1 : Int) < (s.size : Int)) = false ∧ ¬ (k1 < s.size)) ∨ ∃ h : k1 < s.size, (k1 : Int) < (s.size : Int) ∧ decide ((k1 : Int) < (s.size : Int)) = true ∧ (((s[k1]).toNat : Int) == (eb : Int)) = false := by
   rcases hWay with ⟨h, e⟩ | h
   ·exact Or.inr ⟨h, by omega, decide_eq_true (by omega), e⟩
   ·exact Or.inl ⟨decide_eq_false (by omega), by omega⟩
  clear hWay
  have hszI : decide ((0 : Int) ≤ (s.size : Int)) = true := decide_eq_true (by omega)
  rcases hWay2 with ⟨hlt, hltN⟩ | ⟨h, hlt0, hlt, hne⟩
  all_goals
   go_wp2_with fail
   go_loopw [1, 7, 8] (fun av dv kv wr => ∃ p d j : Nat, av = .int .i64 (p : Nat) ∧ dv = .int .i64 (d : Nat) ∧ kv = .int .i64 (j : Nat) ∧ p ≤ s.size ∧ k + d ≤ p ∧ j ≤ p ∧ INM (nb s) t k p d ∧ Below w.heap.size w wr ∧ za wr r 154 (RC 0 false 0)) (fun _ _ kv _ => s.size + 1 - (intOf kv).toNat)
   case atStart => exact ⟨k1, 0, 0, rfl, rfl, rfl, hk2, by omega, by omega, HM.out, hB0, hb0⟩
   case round =>
    clear hlt HM hB0 hb0 c0 c1 c2 f0 f1 f2 x1 hr0 HB
    obtain ⟨p, d, j, rfl, rfl, rfl, hp, hkp, hjp, hin, hB, hb⟩ := hrel
    have HIN := hid hin
    clear hin
    have hji : (j : Int) ≤ (s.size : Int) := by omega
    have hji2 : decide ((j : Int) ≤ (s.size : Int)) = true := decide_eq_true hji
    have hjW := zg j (by omega)
    have HII := hid (HI.out p (by omega) hp)
    have hr1 := hb.lt
    go_wp2_with fail
    (with_reducible refine (HII.out _).mono ?_)
    rintro e w2 ⟨p2, ok2, d2, rfl, hB2, hp2, hpd, hit⟩
    unfold RR RC
    have hit := hid hit
    have hb2 : za w2 r 154 (RC 0 false 0) := za.below hb hB2
    have hBB2 := hB.trans (hB2.mono hB.size)
    clear hb hB hB2 hr1
    have hr2 := hb2.lt
    obtain ⟨c0, c1, c2, f0, f1, f2⟩ := zm hb2
    cases ok2
    ·have HM := hid (zjl (dd := 0) HIN.out hit.out)
     go_wp2_with fail
     refine zt rfl rfl rfl ((zx hb2 _ _ _).alloc _) ?_
     exact ⟨p2, false, d2, rfl, (zn hBB2 (by rw [HR.out]; exact Nat.le_refl _) _ _ _).alloc (by simp; have := HR.out; omega) _, hp2, by omega, zjl HIN.out hit.out, fun h => by cases h⟩
    ·obtain ⟨d3, hd3⟩ : ∃ d3, d3 = max d d2 := ⟨_, rfl⟩
     have hd3I : max (d : Int) (d2 : Int) = (d3 : Int) := by omega
     have hd3b : k + d3 ≤ p2 := by omega
     have HD3 := hid hd3
     clear hd3
     go_wp2_with fail
     (with_reducible refine (zdz s p2 _ hp2 hs).mono ?_)
     rintro e w3 ⟨p3, rfl, rfl, hbk⟩
     have hp3 : p3 ≤ s.size := by have := hbk.2.1; rw [HL.out] at this; exact this
     have hp23 := hbk.1
     have hnb := hid hbk.nb
     have HBE := hid (z0v HIN.out hit.out hbk)
     rw [← HD3.out] at HBE
     clear hbk
     have x1 := zg p3 (by omega)
     have x2 := zg d3 (by omega)
     rcases Nat.lt_or_ge p3 s.size with h3 | h3
     ·have h3I : (p3 : Int) < (s.size : Int) := by omega
      have h3I2 : decide ((p3 : Int) < (s.size : Int)) = true := decide_eq_true h3I
      have HA := hid (zaz s p3 h3)
      have hge : decide ((p3 : Int) ≥ (s.size : Int)) = false := decide_eq_false (by omega)
      have hgeN : ¬ (s.size ≤ p3) := by omega
      by_cases he : (s[p3]).toNat = eb
      ·have eI : ((s[p3]).toNat : Int) = (eb : Int) := by omega
       have HM := hid (zya HBE.out (by rw [HA.out]; exact he.trans HEB.out))
       have HQ := hid (And.intro (show (p3 : Int) + 1 = ((p3 + 1 : Nat) : Int) by omega) (show (d3 : Int) + 1 = ((d3 + 1 : Nat) : Int) by omega))
       clear he
       go_wp2_with fail
       refine zt (x := p3 + 1) (ok := true) (d := d3 + 1) rfl rfl rfl (by rw [HQ.out.1, HQ.out.2]; exact (zx hb2 _ _ _).alloc _) ?_
       exact ⟨p3 + 1, true, d3 + 1, rfl, (zn hBB2 (by rw [HR.out]; exact Nat.le_refl _) _ _ _).alloc (by simp; have := HR.out; omega) _, h3, by omega, HM.out, fun _ => by omega⟩
      ·have eN : (((s[p3]).toNat : Int) == (eb : Int)) = false := by rw [beq_eq_false_iff_ne]; omega
       by_cases h44 : (s[p3]).toNat = 44
       ·have eI : (((s[p3]).toNat : Int) != 44) = false := by rw [bne_eq_false_iff_eq]; omega
        have HM := hid (zyb HBE.out (by rw [HA.out]; exact h44))
        clear he h44
        go_wp2_with fail
        go_roundw
        case rel => exact ⟨p3 + 1, d3, j + 1, by go_num, rfl, by go_num, h3, by omega, by omega, HM.out, hBB2.alloc hBB2.size _, hb2.alloc _⟩
        case measure => simp [intOf]; omega
       ·have eI : (((s[p3]).toNat : Int) != 44) = true := by rw [bne_iff_ne]; omega
        have HM := hid (ztx (dd := 0) HBE.out (by rw [HL.out]; exact hp3) hnb.out (by rw [HA.out]; exact h44) (by rw [HA.out, ← HEB.out]; exact he))
        clear he h44
        go_wp2_with fail
        (with_reducible refine (zav p3 _).mono ?_)
        rintro e w4 ⟨rfl, hB4⟩
        unfold RR RC
        have hb4 : za w4 r 154 (RC 0 false 0) := za.below (hb2.alloc _) hB4
        have hBB3 := hBB2.alloc hBB2.size (.cells #[.int .i64 (p2 : Nat), .bool true, .int .i64 (d2 : Nat)] 154)
        have hBB4 := hBB3.trans (hB4.mono hBB3.size)
        clear c0 c1 c2 f0 f1 f2
        obtain ⟨c0, c1, c2, f0, f1, f2⟩ := zm hb4
        go_wp2_with fail
        refine zt rfl rfl rfl (zx hb4 _ _ _) ?_
        exact ⟨p3, false, 0, rfl, zn hBB4 (by rw [HR.out]; exact Nat.le_refl _) _ _ _, hp3, by omega, HM.out, fun h => by cases h⟩
     ·have h3I2 : decide ((p3 : Int) < (s.size : Int)) = false := decide_eq_false (by omega)
      have h3N : ¬ (p3 < s.size) := by omega
      have hge : decide ((p3 : Int) ≥ (s.size : Int)) = true := decide_eq_true (by omega)
      have HM := hid (ztx (dd := 0) HBE.out (by rw [HL.out]; exact hp3) hnb.out (by rw [zcw (by rw [HL.out]; exact h3)]; decide) (by rw [zcw (by rw [HL.out]; exact h3)]; cases t <;> decide))
      go_wp2_with fail
      (with_reducible refine (zav p3 _).mono ?_)
      rintro e w4 ⟨rfl, hB4⟩
      unfold RR RC
      have hb4 : za w4 r 154 (RC 0 false 0) := za.below (hb2.alloc _) hB4
      have hBB3 := hBB2.alloc hBB2.size (.cells #[.int .i64 (p2 : Nat), .bool true, .int .i64 (d2 : Nat)] 154)
      have hBB4 := hBB3.trans (hB4.mono hBB3.size)
      clear c0 c1 c2 f0 f1 f2
      obtain ⟨c0, c1, c2, f0, f1, f2⟩ := zm hb4
      go_wp2_with fail
      refine zt rfl rfl rfl (zx hb4 _ _ _) ?_
      exact ⟨p3, false, 0, rfl, zn hBB4 (by rw [HR.out]; exact Nat.le_refl _) _ _ _, hp3, by omega, HM.out, fun h => by cases h⟩
theorem zqm (s : ByteArray) (hs : s.size ≤ 65536) : ∀ n k, k ≤ s.size → s.size - k ≤ n → VC s k
 | 0, k, hk, hn => zql s k hk hs (fun t k' h1 h2 => by omega)
 | n + 1, k, hk, hn => zql s k hk hs (fun t k' h1 h2 => by
   refine z3w s t k' h2 hs (fun k2 h3 h4 => ?_)
   have hV : ∀ k3, k2 ≤ k3 → k3 ≤ s.size → VC s k3 := fun k3 h5 h6 => zqm s hs n k3 h6 (by omega)
   cases t
   ·exact z3u s k2 h4 hs (hV k2 (Nat.le_refl _) h4)
   ·exact z3v s k2 h4 hs hV)
def TxR (l : List Nat) (ok : Bool) (k d : Nat) : Prop := (ok = true ∧ k = l.length ∧ R l L.start 0 (Q 5 [] d) k) ∨ (ok = false ∧ ∃ q, R l L.start 0 q k ∧ Dead l q k)
theorem z6x {l : List Nat} {k d : Nat} (h : VAL l 0 false k d) : TxR l false k d := by
 rcases h [] 0 (Nat.le_refl _) with ⟨e, _⟩ | ⟨_, q, r, dd⟩
 ·cases e
 ·exact Or.inr ⟨rfl, q, r, dd⟩
theorem z0w {l : List Nat} {k k2 d : Nat} (h : VAL l 0 true k d) (hb : Blk l k k2) : R l L.start 0 (Q 5 [] d) k2 := by
 rcases h [] 0 (Nat.le_refl _) with ⟨_, r⟩ | ⟨e, _⟩
 ·have e : max 0 (([] : List Bool).length + d) = d := by simp
  rw [e] at r
  exact r.trans (zcm (M := 5) (by omega) [] d hb.1 hb.2.1 hb.2.2.1)
 ·cases e
theorem z8l {l : List Nat} {k k2 d : Nat} (h : VAL l 0 true k d) (hb : Blk l k k2) (he : k2 = l.length) : TxR l true k2 d := Or.inl ⟨rfl, he, z0w h hb⟩
theorem z8m {l : List Nat} {k k2 d : Nat} (h : VAL l 0 true k d) (hb : Blk l k k2) (he : k2 ≠ l.length) : TxR l false k2 d := Or.inr ⟨rfl, _, z0w h hb, zpq (by have := hb.2.1; omega) hb.nb⟩
theorem z0x (s : ByteArray) (w : World) (hs : s.size ≤ 65536) :
  Calls Tryz.prog 102 #[.string s] w fun e w' => ∃ (k' : Nat) (ok : Bool) (d : Nat), e = .returned (RR k' ok d) ∧ Below w.heap.size w w' ∧ k' ≤ s.size ∧ d ≤ s.size ∧ TxR (nb s) ok k' d := by
 have HL := hid (zf s)
 have hB0 := (Below.refl w.heap.size w).alloc (Nat.le_refl _) (.cells #[.int .i64 0, .bool false, .int .i64 0] 154)
 have hb0 : za (w.alloc (.cells #[.int .i64 0, .bool false, .int .i64 0] 154)) w.heap.size 154 (RC 0 false 0) := za.new w _ _
 have HV := hid (show ∀ W, Calls Tryz.prog 145 #[.string s, .int .i64 0] W (zht s 0 (fun ok k' d => VAL (nb s) 0 ok k' d) W) from zqm s hs s.size 0 (Nat.zero_le _) (by omega))
 go_enter Tryz.func102, Tryz.ntmps102
 go_wp2_with fail
 generalize hW0 : w.alloc (.cells #[.int .i64 0, .bool false, .int .i64 0] 154) = W0 at *
 clear hW0
 obtain ⟨r, hr⟩ : ∃ r, r = w.heap.size := ⟨_, rfl⟩
 rw [← hr] at hb0
 rw [← hr]
 have HR := hid hr
 clear hr
 (with_reducible refine (HV.out _).mono ?_)
 rintro e w2 ⟨k2, ok2, d2, rfl, hB2, hk2, hkd, hv⟩
 unfold RR RC
 have HVV := hid hv
 clear hv
 have hb2 : za w2 r 154 (RC 0 false 0) := za.below hb0 hB2
 have hBB2 := hB0.trans (hB2.mono hB0.size)
 clear hb0 hB0 hB2
 have hr2 := hb2.lt
 obtain ⟨c0, c1, c2, f0, f1, f2⟩ := zm hb2
 cases ok2
 ·go_wp2_with fail
  refine zt rfl rfl rfl ((zx hb2 _ _ _).alloc _) ?_
  exact ⟨k2, false, d2, rfl, (zn hBB2 (by rw [HR.out]; exact Nat.le_refl _) _ _ _).alloc (by simp; have := HR.out; omega) _, hk2, by omega, z6x HVV.out⟩
 ·go_wp2_with fail
  (with_reducible refine (zdz s k2 _ hk2 hs).mono ?_)
  rintro e w3 ⟨k3, rfl, rfl, hbk⟩
  have hk4 : k3 ≤ s.size := by have := hbk.2.1; rw [HL.out] at this; exact this
  have HB := hid hbk
  clear hbk
  by_cases he : k3 = s.size
  ·have heI : ((k3 : Int) == (s.size : Int)) = true := by rw [beq_iff_eq]; omega
   have HT := hid (z8l HVV.out HB.out (by rw [HL.out]; exact he))
   clear he
   go_wp2_with fail
   refine zt (x := k3) (ok := true) (d := d2) rfl rfl rfl ((zx hb2 _ _ _).alloc _) ?_
   exact ⟨k3, true, d2, rfl, (zn hBB2 (by rw [HR.out]; exact Nat.le_refl _) _ _ _).alloc (by simp; have := HR.out; omega) _, hk4, by omega, HT.out⟩
  ·have heI : ((k3 : Int) == (s.size : Int)) = false := by rw [beq_eq_false_iff_ne]; omega
   have HT := hid (z8m HVV.out HB.out (by rw [HL.out]; exact he))
   clear he
   go_wp2_with fail
   refine zt (x := k3) (ok := false) (d := d2) rfl rfl rfl ((zx hb2 _ _ _).alloc _) ?_
   exact ⟨k3, false, d2, rfl, (zn hBB2 (by rw [HR.out]; exact Nat.le_refl _) _ _ _).alloc (by simp; have := HR.out; omega) _, hk4, by omega, HT.out⟩
theorem z3x {l : List Nat} {ok : Bool} {k d deep : Nat} (h : TxR l ok k d) (hl : l.length ≤ 65536) : (ok = true ∧ verd l deep = if deep < d then (2, d) else (1, d)) ∨ (ok = false ∧ verd l deep = (3, k)) := by
 rcases h with ⟨rfl, hk, hr⟩ | ⟨rfl, q, hr, hd⟩
 ·refine Or.inl ⟨rfl, ?_⟩
  rw [hk] at hr
  obtain ⟨q0, hg, hf0, hm0⟩ := zvz hr (zv1 d)
  unfold verd
  rw [if_neg (by omega), hg, if_pos ⟨rfl, hf0⟩, hm0]; rfl
 ·refine Or.inr ⟨rfl, ?_⟩
  obtain ⟨q0, hg, hn⟩ := zrp hr hd
  unfold verd
  rw [if_neg (by omega), hg, if_neg hn]
theorem zyc (s : ByteArray) (deep : Nat) (w : World) :
  Calls Tryz.prog 39 #[.string s, .int .i64 (deep : Nat)] w fun e w' => e = .returned (.tuple #[.int .i64 ((verd (nb s) deep).1 : Nat), .int .i64 ((verd (nb s) deep).2 : Nat)]) ∧ Below w.heap.size w w' := by
 have HL := hid (zf s)
 rcases Nat.lt_or_ge 65536 s.size with hs | hs
 ·have hv : verd (nb s) deep = (4, 0) := by unfold verd; rw [if_pos (by rw [HL.out]; exact hs)]
  rw [hv]
  have d3 : decide ((s.size : Int) > 65536) = true := decide_eq_true (by omega)
  go_enter Tryz.func39, Tryz.ntmps39
  go_wp2_with fail
  go_ret2
  exact ⟨rfl, Below.refl _ _⟩
 ·have d3 : decide ((s.size : Int) > 65536) = false := decide_eq_false (by omega)
  have d3N : ¬ (65536 < s.size) := by omega
  go_enter Tryz.func39, Tryz.ntmps39
  go_wp2_with fail
  (with_reducible refine (z0x s _ hs).mono ?_)
  rintro e w2 ⟨k2, ok2, d2, rfl, hB2, hk2, hd2, ht⟩
  unfold RR RC
  have hB3 := hB2.alloc hB2.size (.cells #[.int .i64 (k2 : Nat), .bool ok2, .int .i64 (d2 : Nat)] 154)
  rcases z3x (deep := deep) ht (by rw [HL.out]; exact hs) with ⟨rfl, hv⟩ | ⟨rfl, hv⟩
  ·by_cases hdm : deep < d2
   ·rw [if_pos hdm] at hv
    have HV := hid hv
    have d4 : decide ((d2 : Int) > (deep : Int)) = true := decide_eq_true (by omega)
    clear hv ht
    go_wp2_with fail
    go_quiet (fail)
    go_wp2_with fail
    go_ret2
    exact ⟨by rw [HV.out]; rfl, below_drewN hB3 _⟩
   ·rw [if_neg hdm] at hv
    have HV := hid hv
    have d4 : decide ((d2 : Int) > (deep : Int)) = false := decide_eq_false (by omega)
    clear hv ht
    go_wp2_with fail
    go_quiet (fail)
    go_wp2_with fail
    go_ret2
    exact ⟨by rw [HV.out]; rfl, below_drewN hB3 _⟩
  ·have HV := hid hv
   clear hv ht
   go_wp2_with fail
   go_quiet (fail)
   go_wp2_with fail
   go_ret2
   exact ⟨by rw [HV.out]; rfl, below_drewN hB3 _⟩
end Go.Proofs.YtgpbpgpolpakjaaGreatDoor
