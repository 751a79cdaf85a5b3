/- Proof text. -/
import Derived.Test.YtgpbpgpolpakjaaGreatDoorBitsP
import Derived.Test.YtgpbpgpolpakjaaGreatDoorWordP
import Derived.Test.YtgpbpgpolpakjaaGreatDoorMaths
import Derived.Test.YtgpbpgpolpakjaaGreatDoorBase
set_option maxHeartbeats 1000000
set_option linter.unusedVariables false
set_option linter.unusedSimpArgs false
set_option maxRecDepth 100000
namespace Go.Proofs.YtgpbpgpolpakjaaGreatDoor
open Go.RowKit L
def zci (n : Nat) (i j : Int) : Nat := (min (max j (held n i : Nat)) n).toNat
theorem zqc (n : Nat) (i j : Int) : held n i ≤ zci n i j := by have := zia n i; unfold zci; omega
theorem zqd (n : Nat) (i j : Int) : zci n i j ≤ n := by unfold zci; omega
theorem zs8 (g : Nat) (A : Option Addr) (c : Nat) (bs : List Bool) (i j : Int) (w : World) (hr : zo w g A c bs) :
  Calls Tryz.prog 192 #[.pointer (some ⟨g, 0, none⟩), .int .i64 i, .int .i64 j] w fun e w' => e = .returned (.tuple #[.int .i64 (held bs.length i : Nat), .int .i64 (zci bs.length i j : Nat)]) ∧ w = w' := by
 have hcl := hr.cells.2
 have hpl := zia bs.length i
 have HPI := hid (show min (max i 0) ((bs.length : Nat) : Int) = ((held bs.length i : Nat) : Int) by unfold held; omega)
 have HPJ := hid (show min (max j ((held bs.length i : Nat) : Int)) ((bs.length : Nat) : Int) = ((zci bs.length i j : Nat) : Int) by unfold zci; omega)
 generalize zci bs.length i j = q at *
 generalize held bs.length i = p at *
 have e1 := HPI.out
 have e2 := HPJ.out
 go_enter Tryz.func192, Tryz.ntmps192
 go_wp2_with (go_at_call 94; refine (zar g _ _ hcl).mono ?_; rintro e w' ⟨rfl, rfl⟩)
 go_ret2
 exact ⟨rfl, rfl⟩
theorem fld_testBit (bs : List Bool) (p n i : Nat) (h : i < n) : (fld bs p n).testBit i = sh (zb bs) p i := by
 unfold fld sh
 rw [zfy, zc5]
 have : decide (i < n) = true := by simpa using h
 rw [this, Bool.true_and]
theorem zkm (g : Nat) (A : Option Addr) (c : Nat) (bs : List Bool) (a b : Nat) (w : World) (hr : zo w g A c bs) (hab : a ≤ b) (hb : b ≤ bs.length) :
  Calls Tryz.prog 193 #[.pointer (some ⟨g, 0, none⟩), .int .i64 (a : Nat), .int .i64 (b : Nat)] w fun e w' => e = .returned (.tuple #[.int .u64 (fld bs a (min 64 (b - a)) : Nat), .int .i64 (min 64 (b - a) : Nat)]) ∧ ∃ m, w' = w.drewN m := by
 have hsm := hr.small
 obtain ⟨n, hn⟩ : ∃ n, n = min 64 (b - a) := ⟨_, rfl⟩
 have hn64 : n ≤ 64 := by omega
 have hnl : a + n ≤ bs.length := by omega
 have HM := hid (show min (64 : Int) ((b : Int) - (a : Int)) = (n : Int) by omega)
 rw [← hn]
 clear hn
 have e1 := HM.out
 go_enter Tryz.func193, Tryz.ntmps193
 go_wp2_with fail
 refine (zgd g A c bs a n _ hr hn64 hnl).mono ?_
 rintro e w' ⟨rfl, m, rfl⟩
 go_wp2
 go_ret2
 exact ⟨rfl, m, rfl⟩
theorem fld_lt64 (bs : List Bool) (p n : Nat) (h : n ≤ 64) : fld bs p n < 18446744073709551616 :=
 Nat.lt_of_lt_of_le (zes bs p n) (Nat.pow_le_pow_right (n := 2) (by omega) h)
theorem zu6 (g : Nat) (A : Option Addr) (c : Nat) (bs : List Bool) (i j : Int) (w : World) (hr : zo w g A c bs) :
  Calls Tryz.prog 167 #[.pointer (some ⟨g, 0, none⟩), .int .i64 i, .int .i64 j] w fun e w' =>
   e = .returned (.int .i64 (ex (sh (zb bs) (held bs.length i)) (zci bs.length i j - held bs.length i))) ∧ ∃ m, w' = w.drewN m := by
 have hsm := hr.small
 have h1 := zqc bs.length i j
 have h2 := zqd bs.length i j
 have HE := hid (fun W hW => zs8 g A c bs i j W hW)
 generalize zci bs.length i j = b at *
 generalize held bs.length i = a at *
 go_enter Tryz.func167, Tryz.ntmps167
 go_wp2_with fail
 refine (HE.out _ hr).mono ?_
 rintro e w' ⟨rfl, rfl⟩
 go_wp2_with fail
 go_loopw [1, 7] (fun f e wr => ∃ k m : Nat, a + k ≤ b ∧ f = .int .i64 (a + k : Nat) ∧ e = .int .i64 (ex (sh (zb bs) a) k) ∧ wr = w.drewN m) (fun f _ _ => b - (intOf f).toNat)
 case atStart => exact ⟨0, 0, by omega, rfl, rfl, rfl⟩
 case round =>
  obtain ⟨k, m, hk, rfl, rfl, rfl⟩ := hrel
  have hex := zcp (sh (zb bs) a) k
  rcases Nat.lt_or_ge (a + k) b with hlt | hge
  ·have hlti : (a : Int) + (k : Int) < (b : Int) := by omega
   have hlti2 : ((a + k : Nat) : Int) < (b : Int) := by omega
   have hr2 : zo (w.drewN m) g A c bs := hr
   go_wp2_with fail
   refine (zkm g A c bs (a + k) b _ hr2 (by omega) h2).mono ?_
   rintro e w' ⟨rfl, m2, rfl⟩
   have hn1 : 0 < min 64 (b - (a + k)) := by omega
   have hn2 : min 64 (b - (a + k)) ≤ 64 := by omega
   have hn3 : a + k + min 64 (b - (a + k)) ≤ b := by omega
   generalize min 64 (b - (a + k)) = n at *
   have hv := fld_lt64 bs (a + k) n hn2
   have HX := hid (show ex (fld bs (a + k) n).testBit (z8 (n : Int)) = ex (sh (sh (zb bs) a) k) n by
    rw [show z8 (n : Int) = n from by unfold z8; omega]
    refine zd9 n (fun i hi => ?_)
    rw [fld_testBit bs _ _ _ hi]; unfold sh; rw [Nat.add_assoc])
   have HA := hid (zea (sh (zb bs) a) k n)
   have hex2 := zcp (sh (zb bs) a) (k + n)
   generalize fld bs (a + k) n = v at *
   go_wp2_with fail
   refine (zi1 v (n : Nat) _ hv).mono ?_
   rw [HX.out]
   rintro e w' ⟨rfl, rfl⟩
   have hex3 := zcp (sh (sh (zb bs) a) k) n
   go_wp2
   go_roundw
   case rel => exact ⟨k + n, m + m2, by omega, by go_num, by rw [HA.out], rfl⟩
   case measure => simp [intOf]; omega
  ·obtain rfl : b = a + k := by omega
   go_wp2
   go_ret
   exact ⟨by rw [show a + k - a = k from by omega]; rfl, m, rfl⟩
theorem zc9 {n : Int} (h1 : -9000000000000000 ≤ n) (h2 : n ≤ 9000000000000000) : Small n := by unfold Small; omega
theorem zz0 (la ha lb hb e : Int) (w : World) (h1 : -4294967296 ≤ la ∧ la ≤ 4294967296) (h2 : -4294967296 ≤ ha ∧ ha ≤ 4294967296) (h3 : -4294967296 ≤ lb ∧ lb ≤ 4294967296) (h4 : -4294967296 ≤ hb ∧ hb ≤ 4294967296) (h5 : -4294967296 ≤ e ∧ e ≤ 4294967296) :
  Calls Tryz.prog 196 #[.complex .f64 (fl la) (fl ha), .complex .f64 (fl lb) (fl hb), .int .i64 e] w fun r w' => r = .returned (.complex .f64 (fl (min la (lb + e))) (fl (max ha (hb + e)))) ∧ w = w' := by
 have hadd := fun W t => zge (P := Tryz.prog) W t lb hb e e (zc9 (by omega) (by omega)) (zc9 (by omega) (by omega)) (zc9 (by omega) (by omega)) (zc9 (by omega) (by omega)) (zc9 (by omega) (by omega)) (zc9 (by omega) (by omega))
 have hmin := fun W ts t => znn (P := Tryz.prog) W ts t la (lb + e) (zc9 (by omega) (by omega)) (zc9 (by omega) (by omega))
 have hmax := fun W ts t => zno (P := Tryz.prog) W ts t ha (hb + e) (zc9 (by omega) (by omega)) (zc9 (by omega) (by omega))
 have hfl : ∀ z, floatOfInt .f64 z = fl z := fun _ => rfl
 go_enter Tryz.func196, Tryz.ntmps196
 go_wp2
 go_ret
 exact ⟨rfl, rfl⟩
theorem zxw (g : Nat) (A : Option Addr) (c : Nat) (bs : List Bool) (i j : Int) (w : World) (hr : zo w g A c bs) :
  Calls Tryz.prog 168 #[.pointer (some ⟨g, 0, none⟩), .int .i64 i, .int .i64 j] w fun e w' =>
   e = .returned (.complex .f64 (fl (lo (sh (zb bs) (held bs.length i)) (zci bs.length i j - held bs.length i))) (fl (hi (sh (zb bs) (held bs.length i)) (zci bs.length i j - held bs.length i)))) ∧ ∃ m, w' = w.drewN m := by
 have hsm := hr.small
 have h1 := zqc bs.length i j
 have h2 := zqd bs.length i j
 have HE := hid (fun W hW => zs8 g A c bs i j W hW)
 generalize zci bs.length i j = b at *
 generalize held bs.length i = a at *
 have HFX : ∀ k n, n ≤ 64 → (∀ q, q < n → (fld bs (a + k) n).testBit q = sh (sh (zb bs) a) k q) := fun k n hn q hq => by
  rw [fld_testBit bs _ _ _ hq]; unfold sh; rw [Nat.add_assoc]
 have HFF := hid HFX
 clear HFX
 rcases Nat.eq_or_lt_of_le h1 with hab | hab
 ·subst hab
  have heq : ((a : Int) == (a : Int)) = true := by simp
  go_enter Tryz.func168, Tryz.ntmps168
  go_wp2_with fail
  refine (HE.out _ hr).mono ?_
  rintro e w' ⟨rfl, rfl⟩
  go_wp2
  go_ret
  exact ⟨by rw [Nat.sub_self, show lo (sh (zb bs) a) 0 = 0 from rfl, show hi (sh (zb bs) a) 0 = 0 from rfl, zwb]; rfl, 0, rfl⟩
 ·have heq : ((a : Int) == (b : Int)) = false := by rw [beq_eq_false_iff_ne]; omega
  go_enter Tryz.func168, Tryz.ntmps168
  go_wp2_with fail
  refine (HE.out _ hr).mono ?_
  rintro e w' ⟨rfl, rfl⟩
  go_wp2_with fail
  refine (zkm g A c bs a b _ hr (by omega) h2).mono ?_
  rintro e w' ⟨rfl, m2, rfl⟩
  have hn1 : 0 < min 64 (b - a) := by omega
  have hn2 : min 64 (b - a) ≤ 64 := by omega
  have hn3 : a + min 64 (b - a) ≤ b := by omega
  generalize min 64 (b - a) = n at *
  have hv := fld_lt64 bs a n hn2
  have hcl : z8 (n : Int) = n := by unfold z8; omega
  have HF := HFF.out 0 n hn2
  have H1 := hid (show lo (fld bs a n).testBit n = lo (sh (zb bs) a) n from zr8 n (fun q hq => by have := HF q hq; rw [Nat.add_zero] at this; rw [this]; unfold sh; rw [Nat.zero_add]))
  have H2 := hid (show hi (fld bs a n).testBit n = hi (sh (zb bs) a) n from zr9 n (fun q hq => by have := HF q hq; rw [Nat.add_zero] at this; rw [this]; unfold sh; rw [Nat.zero_add]))
  have H3 := hid (show ex (fld bs a n).testBit n = ex (sh (zb bs) a) n from zd9 n (fun q hq => by have := HF q hq; rw [Nat.add_zero] at this; rw [this]; unfold sh; rw [Nat.zero_add]))
  clear HF
  generalize fld bs a n = v at *
  go_wp2_with fail
  refine (zp7 v (n : Nat) _ hv).mono ?_
  rw [hcl, H1.out, H2.out]
  rintro e w' ⟨rfl, rfl⟩
  go_wp2_with fail
  refine (zi1 v (n : Nat) _ hv).mono ?_
  rw [hcl, H3.out]
  rintro e w' ⟨rfl, rfl⟩
  have hex0 := zcp (sh (zb bs) a) n
  have hN := hid (rfl : n = n)
  go_wp2_with fail
  go_loopw [1, 9, 10] (fun f r e wr => ∃ k m : Nat, 0 < k ∧ a + k ≤ b ∧ f = .int .i64 (a + k : Nat) ∧ r = .complex .f64 (fl (lo (sh (zb bs) a) k)) (fl (hi (sh (zb bs) a) k)) ∧ e = .int .i64 (ex (sh (zb bs) a) k) ∧ wr = w.drewN m) (fun f _ _ _ => b - (intOf f).toNat)
  case atStart => exact ⟨n, m2, hn1, by omega, by go_num, rfl, rfl, rfl⟩
  case round =>
   obtain ⟨k, m, hk0, hk, rfl, rfl, rfl, rfl⟩ := hrel
   clear hv H1 H2 H3 hex0 hn1 hn2 hn3 hcl
   have hex := zcp (sh (zb bs) a) k
   have hlo := zg5 (sh (zb bs) a) k
   have hhi := ziy (sh (zb bs) a) k
   rcases Nat.lt_or_ge (a + k) b with hlt | hge
   ·have hlti : (a : Int) + (k : Int) < (b : Int) := by omega
    have hlti2 : ((a + k : Nat) : Int) < (b : Int) := by omega
    have hr2 : zo (w.drewN m) g A c bs := hr
    go_wp2_with fail
    refine (zkm g A c bs (a + k) b _ hr2 (by omega) h2).mono ?_
    rintro e w' ⟨rfl, m3, rfl⟩
    have hp1 : 0 < min 64 (b - (a + k)) := by omega
    have hp2 : min 64 (b - (a + k)) ≤ 64 := by omega
    have hp3 : a + k + min 64 (b - (a + k)) ≤ b := by omega
    generalize min 64 (b - (a + k)) = p at *
    have hv := fld_lt64 bs (a + k) p hp2
    have hcl : z8 (p : Int) = p := by unfold z8; omega
    have HF := HFF.out k p hp2
    have H1 := hid (zr8 p HF)
    have H2 := hid (zr9 p HF)
    have H3 := hid (zd9 p HF)
    have HA1 := hid (zy3 (sh (zb bs) a) k p hk0 hp1)
    have HA2 := hid (zy4 (sh (zb bs) a) k p hk0 hp1)
    have HA3 := hid (zea (sh (zb bs) a) k p)
    have hex2 := zcp (sh (sh (zb bs) a) k) p
    have hlo2 := zg5 (sh (sh (zb bs) a) k) p
    have hhi2 := ziy (sh (sh (zb bs) a) k) p
    clear HF
    generalize fld bs (a + k) p = v at *
    go_wp2_with fail
    refine (zp7 v (p : Nat) _ hv).mono ?_
    rw [hcl, H1.out, H2.out]
    rintro e w' ⟨rfl, rfl⟩
    go_wp2_with fail
    refine (zz0 _ _ _ _ _ _ (by omega) (by omega) (by omega) (by omega) (by omega)).mono ?_
    rw [← HA1.out, ← HA2.out]
    rintro e w' ⟨rfl, rfl⟩
    go_wp2_with fail
    refine (zi1 v (p : Nat) _ hv).mono ?_
    rw [hcl, H3.out]
    rintro e w' ⟨rfl, rfl⟩
    go_wp2
    go_roundw
    case rel => exact ⟨k + p, m + m3, by omega, by omega, by go_num, rfl, by rw [HA3.out], rfl⟩
    case measure => simp [intOf]; omega
   ·obtain rfl : b = a + k := by omega
    go_wp2
    go_ret
    exact ⟨by rw [show a + k - a = k from by omega]; rfl, m, rfl⟩
end Go.Proofs.YtgpbpgpolpakjaaGreatDoor
