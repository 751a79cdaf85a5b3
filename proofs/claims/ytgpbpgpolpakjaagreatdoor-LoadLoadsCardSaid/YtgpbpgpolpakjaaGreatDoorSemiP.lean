/- Proof text. -/
import Derived.Test.YtgpbpgpolpakjaaGreatDoorSemiV
import Derived.Test.YtgpbpgpolpakjaaGreatDoorWordP
import Derived.Laws.FloatArith
import Derived.Test.YtgpbpgpolpakjaaGreatDoorFanoQ
set_option maxHeartbeats 2000000
set_option linter.unusedVariables false
set_option linter.unusedSimpArgs false
namespace Go.Proofs.YtgpbpgpolpakjaaGreatDoor
open Go.RowKit L
theorem L.z0i (n B : Nat) (h0 : 0 < n) (hB : B < 18446744073709551616) : B / 2 ^ wd n B < 2 * n ∧ (wd n B = 0 ∨ n * 2 ^ wd n B ≤ B) := by
 unfold wd
 split
 ·rename_i h
  rw [Nat.pow_zero, Nat.div_one]; exact ⟨by omega, Or.inl rfl⟩
 ·rename_i h
  have hq : 2 ≤ B / n := (Nat.le_div_iff_mul_le h0).2 (by omega)
  have hs := zdj (B / n) (Nat.lt_of_le_of_lt (Nat.div_le_self _ _) hB)
  have hn : need (B / n) ≠ 0 := fun e => by rw [e] at hs; have := hs.1; simp at this; omega
  have hs2 := hs.2.1 hn
  obtain ⟨k, hk⟩ : ∃ k, need (B / n) = k + 1 := ⟨need (B / n) - 1, by omega⟩
  have h1 := hs.1
  clear hs hn
  rw [hk] at h1
  rw [hk, Nat.add_sub_cancel] at hs2
  rw [hk, Nat.add_sub_cancel]
  constructor
  ·rw [Nat.div_lt_iff_lt_mul (Nat.two_pow_pos _)]
   have h2 : B < n * 2 ^ (k + 1) := by
    have := (Nat.div_lt_iff_lt_mul h0).1 h1
    rw [Nat.mul_comm] at this; exact this
   rw [Nat.pow_succ] at h2
   calc B < n * (2 ^ k * 2) := h2
    _ = 2 * n * 2 ^ k := by rw [Nat.mul_comm (2 ^ k) 2, ← Nat.mul_assoc, Nat.mul_comm n 2]
  ·right
   have := (Nat.le_div_iff_mul_le h0).1 hs2
   rw [Nat.mul_comm]; exact this
theorem L.z2z (m n w : Nat) (hm : 0 < m) (hn : 0 < n) (hB : n < 18446744073709551616) (hw : n ≤ m * 2 ^ w) : wd m n ≤ w := by
 rcases (z0i m n hm hB).2 with h | h
 ·omega
 ·refine Classical.byContradiction fun hc => ?_
  have h1 : 2 ^ (w + 1) ≤ 2 ^ wd m n := Nat.pow_le_pow_right (by omega) (by omega)
  have h2 : m * 2 ^ (w + 1) ≤ m * 2 ^ wd m n := Nat.mul_le_mul_left m h1
  rw [Nat.pow_succ, ← Nat.mul_assoc] at h2
  omega
def L.zkt (m w : Nat) : Nat := 4 * m + m * w + 10 * m + 8192
theorem L.z0j (m n w z : Nat) (hm : 0 < m) (hn : 0 < n) (hB : n < 18446744073709551616) (hw : n ≤ m * 2 ^ w) (hz : z = m * wd m n + (m + ((n - 1) / 2 ^ wd m n + 1)) + 2 * m + (m + ((n - 1) / 2 ^ wd m n + 1)) / 2 + 512 + 3 * (2 * m) + 2560) : z ≤ zkt m w := by
 have h1 := (z0i m n hm hB).1
 have h2 : (n - 1) / 2 ^ wd m n ≤ n / 2 ^ wd m n := Nat.div_le_div_right (by omega)
 have h3 : m * wd m n ≤ m * w := Nat.mul_le_mul_left m (z2z m n w hm hn hB hw)
 unfold zkt
 omega
end Go.Proofs.YtgpbpgpolpakjaaGreatDoor
namespace Go.Proofs.YtgpbpgpolpakjaaGreatDoor.L
open Go
theorem zo8 (q d : Nat) : Ieee.Toward.zero.cut false (q * 2 ^ d) d = q := by
 unfold Ieee.Toward.cut
 simp only [Bool.toNat_false, Nat.add_zero]
 rcases Nat.eq_zero_or_pos q with rfl | hq
 ·simp
 ·have hl := zh2 (m := q) (by omega) d
  rw [hl, Nat.min_eq_left (by omega), Nat.one_shiftLeft]
  exact Nat.mul_div_cancel _ (Nat.two_pow_pos d)
theorem z3a (n : Nat) (h : Small (n : Int)) (hb : n < 9223372036854775808) : floatToIntVal .f64 (fl (n : Int)) .i64 = some (n : Int) := by
 obtain ⟨s, M, P, hd, hP, hs, hM⟩ := zee (n : Int) h
 have hs0 : s = false := by rw [hs]; simp
 subst hs0
 have h0 := hM P (Int.le_refl _)
 rw [Int.sub_self] at h0
 have h1 : Ieee.signed false M 0 = (M : Int) := by unfold Ieee.signed; simp
 have h2 : M = n * 2 ^ (-P).toNat := by
  have h3 : (M : Int) = (n : Int) * 2 ^ (-P).toNat := by rw [← h1]; exact h0
  have h4 : ((n * 2 ^ (-P).toNat : Nat) : Int) = (n : Int) * 2 ^ (-P).toNat := by simp
  omega
 have hdec : FloatKind.f64.decode (fl (n : Int)) = Ieee.Datum.number false M P := hd
 unfold floatToIntVal
 rw [hdec]
 have hp0 : P.toNat = 0 := by omega
 have hi : (Ieee.Datum.number false M P).toInt .zero = some (n : Int) := by
  unfold Ieee.Datum.toInt Ieee.Datum.integral
  simp only [hp0, Nat.shiftLeft_zero]
  rw [h2, zo8]
  unfold Ieee.signed; simp
 rw [hi]
 have hm : IntKind.i64.min ≤ (n : Int) ∧ (n : Int) ≤ IntKind.i64.max := by
  have e1 : IntKind.i64.min = -9223372036854775808 := by decide
  have e2 : IntKind.i64.max = 9223372036854775807 := by decide
  rw [e1, e2]; omega
 show (if IntKind.i64.min ≤ (n : Int) ∧ (n : Int) ≤ IntKind.i64.max then some (n : Int) else none) = _
 rw [if_pos hm]
end Go.Proofs.YtgpbpgpolpakjaaGreatDoor.L
set_option maxRecDepth 100000
namespace Go.Proofs.YtgpbpgpolpakjaaGreatDoor
open Go.RowKit Go.Shelf L
theorem zx5 (s : Nat) (l : List Nat) (B : Nat) (w : World) (hs : za4 w s l B) (hr : zas l B) :
  ∃ N : Nat, N ≤ (l.length + top l B) / 2 + 512 ∧ ∀ n, Calls Tryz.prog 150 #[.pointer (some ⟨s, 0, none⟩)] (w.drewN n) fun e w' => e = .returned (.int .i64 (N : Nat)) ∧ ∃ m, w' = (w.drewN n).drewN m := by
 obtain ⟨gl, Al, cL, gc, gd, gx, A, c, Ad, cd, A1, c1, l1, A0, c0, l0, hb, hl, hc⟩ := hs
 have K4 := hid (show ∀ n, (w.drewN n).cell? ⟨s, 4, none⟩ = some (.pointer (some ⟨gc, 0, none⟩)) from fun n => hb.cell 4)
 have hslt := hb.lt
 have b1 := hc.half1.1
 have b0 := hc.half0.1
 have hsum := zv5 (high (wd l.length B) (top l B) l)
 have hhl : (high (wd l.length B) (top l B) l).length = l.length + top l B := zdv (wd l.length B) (top l B) l (hr.up _) (Nat.le_trans (hr.last _) (Nat.le_succ _))
 have HS := hid (fun W hW => znr gc gd gx A c (high (wd l.length B) (top l B) l) Ad cd A1 c1 l1 A0 c0 l0 W hW)
 have hN : 128 * ((high (wd l.length B) (top l B) l).length / 512 + 1) + 64 * (l1.length + l0.length) ≤ (l.length + top l B) / 2 + 512 := by omega
 refine ⟨_, hN, fun n => ?_⟩
 have HS2 := hid (HS.out (w.drewN n) hc)
 have k4 := K4.out n
 clear hb hl hc b1 b0 hsum hhl hN HS K4
 generalize 128 * ((high (wd l.length B) (top l B) l).length / 512 + 1) + 64 * (l1.length + l0.length) = N at *
 go_enter Tryz.func150, Tryz.ntmps150
 go_wp2_with fail
 refine (HS2.out).mono ?_
 rintro e w1 ⟨rfl, m, rfl⟩
 go_wp2_with fail
 go_ret
 exact ⟨rfl, m, by first | rfl | simp⟩
theorem zvi (s : Nat) (bs : List Bool) (w : World) (hs : zcc w s bs) (hsm : bs.length ≤ 4294967296) :
  ∃ N : Nat, N ≤ 3 * bs.length + 2560 ∧ ∀ n, Calls Tryz.prog 151 #[.pointer (some ⟨s, 0, none⟩)] (w.drewN n) fun e w' => e = .returned (.int .i64 (N : Nat)) ∧ ∃ m, w' = (w.drewN n).drewN m := by
 obtain ⟨gx, gt, gl, gc, gd, A, c, hh, Ad, cd, A1, c1, l1, A0, c0, l0, h1, h2, h3⟩ := hs
 have k1 : w.cell? ⟨s, 1, none⟩ = some (.pointer (some ⟨gt, 0, none⟩)) := h1.cell 1
 have k2 : w.cell? ⟨s, 2, none⟩ = some (.pointer (some ⟨gc, 0, none⟩)) := h1.cell 2
 have HM := hid (fun W hW => zxz gt gl gx A c bs hh W hW)
 have HC := hid (fun W hW => znr gc gd gx A c bs Ad cd A1 c1 l1 A0 c0 l0 W hW)
 have hszb : 640 * 2 ^ hh ≤ 5 * bs.length / 2 + 2048 := by
  rcases h2.least with h0 | h0
  ·subst h0; simp
  ·omega
 have q1 := h3.half1.1
 have q0 := h3.half0.1
 have qb := zv5 bs
 have hsz4 : 128 * (bs.length / 512 + 1) + 64 * (l1.length + l0.length) ≤ bs.length / 2 + 512 := by omega
 have hb2 : 640 * 2 ^ hh + (128 * (bs.length / 512 + 1) + 64 * (l1.length + l0.length)) ≤ 3 * bs.length + 2560 := by omega
 refine ⟨640 * 2 ^ hh + (128 * (bs.length / 512 + 1) + 64 * (l1.length + l0.length)), hb2, fun n => ?_⟩
 generalize 640 * 2 ^ hh = sz at *
 generalize 128 * (bs.length / 512 + 1) + 64 * (l1.length + l0.length) = sy at *
 have k1n : (w.drewN n).cell? ⟨s, 1, none⟩ = some (.pointer (some ⟨gt, 0, none⟩)) := k1
 have k2n : (w.drewN n).cell? ⟨s, 2, none⟩ = some (.pointer (some ⟨gc, 0, none⟩)) := k2
 have h2n : zbs (w.drewN n) gt gl gx A c bs hh := h2
 have h3n : zab (w.drewN n) gc gd gx A c bs Ad cd A1 c1 l1 A0 c0 l0 := h3
 clear h1 h2 h3 k1 k2 hszb hsz4 q1 q0 qb
 generalize w.drewN n = W at *
 go_enter Tryz.func151, Tryz.ntmps151
 go_wp2_with fail
 go_quiet ((first
  | (go_at_call 185; exact zax (HM.out _ (by exact h2n)))
  | (go_at_call 184; exact zfm (HC.out _ (by exact h3n)))))
 go_wp2_with fail
 go_ret
 exact ⟨by first | rfl | simp, by first | exact ⟨_, rfl⟩ | exact ⟨_, World.drewN_drewN _ _ _⟩ | exact ⟨_, (World.drewN_drewN _ _ _).symm⟩⟩
def L.zf3 (l : List Nat) : Nat := (places l).length * wd (places l).length (bndN l) + ((places l).length + top (places l) (bndN l)) + (zl l).length + ((places l).length + top (places l) (bndN l)) / 2 + 512 + 3 * (zl l).length + 2560
theorem zq9 (g : Nat) (s : ByteArray) (w : World) (hi : zbo w g s) (hs : (nb s).length ≤ 65536) (hm : (places (nb s)).length ≤ 10000) :
  Calls Tryz.prog 111 #[.pointer (some ⟨g, 0, none⟩)] w fun e w' => ∃ a b : Nat, e = .returned (.complex .f64 (fl (a : Int)) (fl (b : Int))) ∧ a + b ≤ zf3 (nb s) ∧ a + b ≤ 9000000 ∧ ∃ m, w' = w.drewN m := by
 obtain ⟨q, y, t, Ax, cx, h1, h2, h3, h4⟩ := hi
 have k0 := h1.cell 0
 have k1 := h1.cell 1
 have k2 := h1.cell 2
 have hpl : (zl (nb s)).length = 2 * (places (nb s)).length := by rw [zbz, zah]
 have hR := zb5 (l := nb s) (by omega)
 have hF := zc7 hs hm
 have hwd := zey (places (nb s)).length (bndN (nb s)) hR.1.2
 have htop : top (places (nb s)) (bndN (nb s)) ≤ 100001 := by have := hF.2; unfold top; omega
 have hmw : (places (nb s)).length * wd (places (nb s)).length (bndN (nb s)) ≤ 10000 * 40 := Nat.mul_le_mul hm hwd
 have HZ := hid (fun W hW => z2u q (places (nb s)) (bndN (nb s)) W hW hR hF)
 obtain ⟨N1, hN1, ho⟩ := zx5 q (places (nb s)) (bndN (nb s)) w h2 hR
 obtain ⟨N2, hN2, hnn⟩ := zvi t (zl (nb s)) w h4 (by omega)
 have HO := hid ho
 have HN := hid hnn
 clear ho hnn
 have HL := hid (fun W hc => zar y ((zl (nb s)).length : Nat) W hc)
 have hcl := h3.cells.2
 have HMX := hid (show zf3 (nb s) = (places (nb s)).length * wd (places (nb s)).length (bndN (nb s)) + ((places (nb s)).length + top (places (nb s)) (bndN (nb s))) + (zl (nb s)).length + ((places (nb s)).length + top (places (nb s)) (bndN (nb s))) / 2 + 512 + 3 * (zl (nb s)).length + 2560 from rfl)
 have hz2 : (places (nb s)).length + top (places (nb s)) (bndN (nb s)) ≤ 110001 := by omega
 have hz3 : (zl (nb s)).length ≤ 20000 := by omega
 clear h1 h3 hR hF hwd hpl htop
 generalize zf3 (nb s) = mx at *
 generalize (places (nb s)).length * wd (places (nb s)).length (bndN (nb s)) = z1 at *
 generalize (places (nb s)).length + top (places (nb s)) (bndN (nb s)) = z2 at *
 generalize (zl (nb s)).length = z3 at *
 have hw1 : IntKind.i64.wrap (((z1 + z2 : Nat) : Int) + (z3 : Int)) = ((z1 + z2 + z3 : Nat) : Int) := by rw [IntKind.wrap_i64]; omega
 have hw1b : IntKind.i64.wrap ((z1 : Int) + (z2 : Int) + (z3 : Int)) = ((z1 + z2 + z3 : Nat) : Int) := by rw [IntKind.wrap_i64]; omega
 have hw2 : IntKind.i64.wrap ((N1 : Int) + (N2 : Int)) = ((N1 + N2 : Nat) : Int) := by rw [IntKind.wrap_i64]; omega
 go_enter Tryz.func111, Tryz.ntmps111
 go_wp2_with fail
 go_quiet ((first
  | (go_at_call 149; exact zfm (HZ.out _ (by exact h2)))
  | (go_at_call 94; exact zax (HL.out _ (by exact hcl)))
  | (go_at_call 150; exact zfm (HO.out _))
  | (go_at_call 151; exact zfm (HN.out _))))
 go_wp2_with fail
 go_ret
 refine ⟨z1 + z2 + z3, N1 + N2, ?_, by rw [HMX.out]; omega, by omega, _, rfl⟩
 have e1 : ((z1 + z2 + z3 : Nat) : Int) = (z1 : Int) + (z2 : Int) + (z3 : Int) := by omega
 have e2 : ((N1 + N2 : Nat) : Int) = (N1 : Int) + (N2 : Int) := by omega
 rw [e1, e2]
 first | rfl | simp [fl]
theorem ztr (g : Nat) (s : ByteArray) (w : World) (hi : zbo w g s) (hs : (nb s).length ≤ 65536) (hm : (places (nb s)).length ≤ 10000) :
  Calls Tryz.prog 57 #[.pointer (some ⟨g, 0, none⟩)] w fun e w' => ∃ a : Nat, e = .returned (.int .i64 (a : Nat)) ∧ a ≤ zf3 (nb s) ∧ ∃ m, w' = w.drewN m := by
 have HS := hid (zq9 g s w hi hs hm)
 clear hi hs hm
 generalize zf3 (nb s) = mx at *
 go_enter Tryz.func57, Tryz.ntmps57
 go_wp2_with fail
 refine (HS.out).mono ?_
 rintro e w' ⟨a, b, rfl, h1, h2, m, rfl⟩
 have sa : Small (a : Int) := by unfold Small; omega
 have sb : Small (b : Int) := by unfold Small; omega
 have sab : Small ((a : Int) + (b : Int)) := by unfold Small; omega
 have hadd : floatBits .add .f64 (fl (a : Int)) (fl (b : Int)) = some (fl ((a : Int) + (b : Int))) := by
  have hf : FloatKind.f64.format = Ieee.double := rfl
  have := zso (a : Int) (b : Int) sa sb sab
  simp [floatBits, hf, this]
 have hcv : floatToIntVal .f64 (fl ((a : Int) + (b : Int))) .i64 = some ((a : Int) + (b : Int)) := by
  have e : (a : Int) + (b : Int) = ((a + b : Nat) : Int) := by omega
  rw [e]; exact z3a (a + b) (by rw [← e]; exact sab) (by omega)
 have hra := fun W t => run_float_arith (P := Tryz.prog) W .add t .f64 (fl (a : Int)) (fl (b : Int)) _ hadd
 have hrc := fun W => run_convert_float_int (P := Tryz.prog) W 163 3 .f64 .i64 (fl ((a : Int) + (b : Int))) _ (by rw [Tryz.underlying163]; rfl) Tryz.underlying3 hcv
 go_wp2_with (simp only [hra, hrc])
 go_ret
 exact ⟨a + b, by first | rfl | simp, h1, m, rfl⟩
theorem zra (n m : Nat) (w : World) (hn : n ≤ 65536) (hm : 1 ≤ m) (hm2 : m ≤ 10000) :
  Calls Tryz.prog 58 #[.int .i64 (n : Nat), .int .i64 (m : Nat)] w fun e w' => ∃ k : Nat, e = .returned (.int .i64 (zkt m k : Nat)) ∧ n ≤ m * 2 ^ k ∧ w = w' := by
 have hm0 : (0 : Int) < (m : Int) := by omega
 go_enter Tryz.func58, Tryz.ntmps58
 go_wp2_with fail
 go_loopw [5] (fun kv wr => ∃ k : Nat, k ≤ 16 ∧ kv = .int .i64 (k : Nat) ∧ Hid (k = 0 ∨ m * 2 ^ (k - 1) < n) ∧ wr = w) (fun kv _ => 17 - (intOf kv).toNat)
 case atStart => exact ⟨0, by omega, rfl, hid (Or.inl rfl), rfl⟩
 case round =>
  obtain ⟨k, hk, rfl, hp, rfl⟩ := hrel
  obtain ⟨X, hX⟩ : ∃ X, X = m * 2 ^ k := ⟨_, rfl⟩
  obtain ⟨Y, hY⟩ : ∃ Y, Y = m * k := ⟨_, rfl⟩
  have hp16 : 2 ^ k ≤ 2 ^ 16 := Nat.pow_le_pow_right (by omega) hk
  have hXb : X ≤ 10000 * 2 ^ 16 := by rw [hX]; exact Nat.mul_le_mul hm2 hp16
  have hYb : Y ≤ 10000 * 16 := by rw [hY]; exact Nat.mul_le_mul hm2 hk
  have hXI : (m : Int) * 2 ^ k = (X : Int) := by rw [hX]; simp
  have hYI : (m : Int) * (k : Int) = (Y : Int) := by rw [hY]; simp
  have hXb2 : X ≤ 655360000 := by omega
  have hk0 : (0 : Int) ≤ (k : Int) := by omega
  rcases Nat.lt_or_ge X n with hlt | hge
  ·have hltI : (X : Int) < (n : Int) := by omega
   have hkl : k < 16 := by
    refine Classical.byContradiction fun hc => ?_
    have : k = 16 := by omega
    subst this
    have : 1 * 2 ^ 16 ≤ m * 2 ^ 16 := Nat.mul_le_mul_right _ hm
    omega
   have HN := hid (show k + 1 = 0 ∨ m * 2 ^ (k + 1 - 1) < n from Or.inr (by rw [Nat.add_sub_cancel, ← hX]; exact hlt))
   clear hX hY hp16 hXb
   go_wp2_with fail
   exact ⟨⟨k + 1, by omega, by go_num, HN, by first | rfl | trivial⟩, by simp [intOf]; omega⟩
  ·have hltI : ¬ ((X : Int) < (n : Int)) := by omega
   have hgeI : (n : Int) ≤ (X : Int) := by omega
   have HX := hid hX
   have HY := hid hY
   clear hX hY hp16 hXb
   go_wp2_with fail
   go_ret
   refine ⟨k, ?_, by rw [← HX.out]; exact hge, rfl⟩
   have e : ((zkt m k : Nat) : Int) = 4 * (m : Int) + (Y : Int) + 10 * (m : Int) + 8192 := by unfold zkt; rw [← HY.out]; omega
   rw [e]
   first | rfl | simp
end Go.Proofs.YtgpbpgpolpakjaaGreatDoor
