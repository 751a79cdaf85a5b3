/- Proof text. -/
import Derived.Test.YtgpbpgpolpakjaaGreatDoorSemiV
import Derived.Test.YtgpbpgpolpakjaaGreatDoorSemiW
set_option maxHeartbeats 8000000
set_option linter.unusedVariables false
set_option linter.unusedSimpArgs false
set_option maxRecDepth 100000
namespace Go.Proofs.YtgpbpgpolpakjaaGreatDoor
open Go.RowKit Go.Shelf L
theorem zue (g : Nat) (s : ByteArray) (w : World) (hi : zbo w g s) :
  Calls Tryz.prog 51 #[.pointer (some ⟨g, 0, none⟩)] w fun e w' => e = .returned (.string s) ∧ w = w' := by
 obtain ⟨q, y, t, Ax, cx, h1, h2, h3, h4⟩ := hi
 have k3 : w.cell? ⟨g, 3, none⟩ = some (.string s) := h1.cell 3
 clear h1 h2 h3 h4
 go_enter Tryz.func51, Tryz.ntmps51
 go_wp2_with fail
 go_ret
 exact ⟨rfl, rfl⟩
theorem zk4 (g : Nat) (s : ByteArray) (i : Int) (w : World) (hi : zbo w g s) (hk : i < 0 ∨ ((places (nb s)).length : Int) ≤ i) :
  Calls Tryz.prog 55 #[.pointer (some ⟨g, 0, none⟩), .int .i64 i] w fun e w' => e = .returned (.tuple #[.int .i64 0, .int .i64 2]) ∧ w = w' := by
 obtain ⟨q, y, t, Ax, cx, h1, h2, h3, h4⟩ := hi
 have k0 := h1.cell 0
 have HG := hid (z2p q (places (nb s)) (bndN (nb s)) i w h2 hk)
 clear h1 h2 h3 h4 hk
 go_enter Tryz.func55, Tryz.ntmps55
 go_wp2_with fail
 (with_reducible refine (HG.out).mono ?_)
 rintro e w' ⟨rfl, rfl⟩
 go_wp2_with fail
 go_ret2
 exact ⟨rfl, rfl⟩
theorem L.z7i {l : List Nat} (h : (places l).length = 0) : zf3 l ≤ 8192 := by
 have hp := zbz l
 rw [zah] at h
 have hb : bndN l = 1 := by unfold bndN; rw [if_pos (by rw [zah]; exact h)]
 unfold zf3 top
 rw [hb, hp, zah, h]
 simp
theorem zpi (n : Nat) (w : World) :
  Calls Tryz.prog 58 #[.int .i64 (n : Nat), .int .i64 0] w fun e w' => e = .returned (.int .i64 8192) ∧ w = w' := by
 go_enter Tryz.func58, Tryz.ntmps58
 go_wp2_with fail
 go_loop [5] (fun wv => wv = .int .i64 0) (fun _ => 0)
 case atStart => rfl
 case round =>
  obtain rfl := hrel
  go_wp2_with fail
  go_ret
  exact ⟨rfl, rfl⟩
theorem z4e (g : Nat) (s : ByteArray) (w : World) (hi : zbo w g s) (hT : Tab w) (hs : s.size ≤ 4096) :
  Calls Tryz.prog 16 #[.pointer (some ⟨g, 0, none⟩), .string s] w fun e w' => e = .returned (.bool true) ∧ Below w.heap.size w w' := by
 have hnl : (nb s).length ≤ 4096 := by rw [zf]; exact hs
 have hpl : (places (nb s)).length ≤ 4096 := by rw [zah]; have := zbg (nb s); omega
 have hpr : (zl (nb s)).length ≤ 8192 := by rw [zbz]; have := zbg (nb s); omega
 have HTX := hid (fun W hW => zue g s W hW)
 have HP := hid (fun W => zez s W hs)
 have HQ := hid (fun W => zjm s W hs)
 have HK := hid (fun W hW => zq8 g s W hW)
 have HN := hid (fun W hW => ztm g s W hW)
 have HO := hid (fun q W hW => (show Calls Tryz.prog 53 #[.pointer (some ⟨q, 0, none⟩)] W fun e w' => e = .returned (.int .i64 (cnt (zl (nb s)) (zl (nb s)).length : Nat)) ∧ W = w' from by have := zx1 q (zl (nb s)) W hW; rw [zle] at this; exact this))
 have HR := hid (fun A c W hW => (show Calls Tryz.prog 54 #[.slice A (zl (nb s)).length c, .int .i64 ((zl (nb s)).length : Nat)] W fun e w' => e = .returned (.int .i64 (cnt (zl (nb s)) (zl (nb s)).length : Nat)) ∧ W = w' from by have := zo1 A c (zl (nb s)) (zl (nb s)).length W hW (by omega); rw [zy9, zle] at this; exact this))
 have HB := hid (fun W hW hTW => zjn g s W hW hTW (by omega) (by omega))
 have HRB := hid (fun W => zhu s W hs)
 have HI := hid (fun (i : Nat) (hk : i < (places (nb s)).length) W hW hTW => zvf g s i W hW hTW (by omega) (by omega) hk)
 have HU := hid (fun (i : Nat) (hk : i < (places (nb s)).length) W hW hTW => zpe g s i W hW hTW (by omega) (by omega) hk)
 have HX := hid (fun W hW => zk4 g s ((places (nb s)).length : Nat) W hW (Or.inr (Int.le_refl _)))
 have HY := hid (fun W hW => zk4 g s (-1) W hW (Or.inl (by omega)))
 have HZ := hid (fun W hW => ztr g s W hW (by omega) (by omega))
 have HBT := hid (show ∀ (z : Nat), z ≤ zf3 (nb s) → ∀ W, Calls Tryz.prog 58 #[.int .i64 (s.size : Nat), .int .i64 ((places (nb s)).length : Nat)] W fun e w' => ∃ k : Nat, e = .returned (.int .i64 (k : Nat)) ∧ z ≤ k ∧ W = w' from fun z hz W => by
  rcases Nat.eq_zero_or_pos (places (nb s)).length with h | h
  ·have := zpi s.size W
   rw [h]
   exact this.mono (fun e w' ⟨h1, h2⟩ => ⟨8192, h1, Nat.le_trans hz (z7i h), h2⟩)
  ·refine (zra s.size (places (nb s)).length W (by omega) h (by omega)).mono (fun e w' ⟨k, h1, h2, h3⟩ => ⟨_, h1, ?_, h3⟩)
   have hpm : (places (nb s)).length ≤ s.size := by rw [zah, ← zf]; exact zbg (nb s)
   refine Nat.le_trans hz (z0j _ s.size k _ (by omega) (by omega) (by omega) h2 ?_)
   unfold zf3 top
   have hb : bndN (nb s) = s.size := by unfold bndN; rw [if_neg (by omega), zf]
   rw [zbz, ← zah, hb])
 have HIB := hid (show ∀ W, Below w.heap.size w W → zbo W g s from fun W hW => hi.below hW)
 clear hnl
 generalize places (nb s) = P at *
 generalize zl (nb s) = R at *
 generalize idxS (nb s) = I at *
 generalize zf3 (nb s) = Z at *
 generalize cnt R R.length = N at *
 go_enter Tryz.func16, Tryz.ntmps16
 go_wp2_with fail
 refine (HTX.out _ hi).mono ?_
 rintro e w' ⟨rfl, rfl⟩
 go_wp2_with fail
 refine (HP.out _).mono ?_
 rintro e w1 ⟨A1, c1, rfl, hl1, hB1⟩
 go_wp2_with fail
 refine (HQ.out _).mono ?_
 rintro e w2 ⟨A2, c2, rfl, hl2, hB2⟩
 have hl12 := hl1.below hB2
 have hB12 := hB1.trans (hB2.mono hB1.size)
 have hi2 := HIB.out _ hB12
 clear hB1 hB2 hl1
 go_wp2_with fail
 refine (HK.out _ hi2).mono ?_
 rintro e w' ⟨rfl, rfl⟩
 go_wp2_with fail
 refine (HN.out _ hi2).mono ?_
 rintro e w' ⟨t, rfl, ht, rfl⟩
 go_wp2_with fail
 refine (HN.out _ hi2).mono ?_
 rintro e w' ⟨t2, rfl, ht2, rfl⟩
 go_wp2_with fail
 refine (HO.out _ _ ht2).mono ?_
 rintro e w' ⟨rfl, rfl⟩
 go_wp2_with fail
 refine (HR.out _ _ _ hl2).mono ?_
 rintro e w' ⟨rfl, rfl⟩
 go_wp2_with fail
 refine (HB.out _ hi2 (hT.below hB12)).mono ?_
 rintro e w3 ⟨rfl, hB3⟩
 have hB13 := hB12.trans (hB3.mono hB12.size)
 have hl13 := hl12.below hB3
 clear hB3 hl12
 go_wp2_with fail
 refine (HRB.out _).mono ?_
 rintro e w4 ⟨rfl, hB4⟩
 have hB14 := hB13.trans (hB4.mono hB13.size)
 have hl14 := hl13.below hB4
 have hT4 := hT.below hB14
 clear hB4 hl13 hB13 hB12 hi2 hi
 go_wp2_with fail
 go_loopw [7] (fun iv wr => ∃ i : Nat, i ≤ P.length ∧ iv = .int .i64 (i : Nat) ∧ Below w4.heap.size w4 wr) (fun iv _ => P.length - (intOf iv).toNat)
 case atStart => exact ⟨0, by omega, rfl, Below.refl _ _⟩
 case round =>
  obtain ⟨i, hiP, rfl, hB⟩ := hrel
  have hBw := hB14.trans (hB.mono hB14.size)
  have hiw := HIB.out _ hBw
  have hTw := hT4.below hB
  rcases Nat.lt_or_ge i P.length with hlt | hge
  ·have HI2 := HI.out i hlt
   have HU2 := HU.out i hlt
   obtain ⟨ab, ao, rfl, had, hcl⟩ := hl14.lit (by rw [zc6]; omega)
   have hcell := fun W (hW : Below w4.heap.size w4 W) => (hW.cell (p := ⟨ab, ao + i, none⟩) had).trans (hcl i (.int .i64 (P[i] : Nat)) (by unfold zz; rw [List.getElem?_map, List.getElem?_eq_getElem hlt]; rfl))
   generalize P[i] = v at *
   have hlI : (i : Int) < (P.length : Int) := by omega
   have h0I : (0 : Int) ≤ (i : Int) := by omega
   have HI3 := hid HI2
   have HU3 := hid HU2
   clear HI2 HU2 HI HU
   go_wp2_with fail
   refine (HI3.out _ hiw hTw).mono ?_
   rintro e w6 ⟨rfl, hB6⟩
   have hBx := hB.trans (hB6.mono hB.size)
   have hc6 := hcell _ hBx
   have hi6 := HIB.out _ (hB14.trans (hBx.mono hB14.size))
   have hT6 := hT4.below hBx
   go_wp2_with fail
   refine (HU3.out _ hi6 hT6).mono ?_
   rintro e w7 ⟨rfl, hB7⟩
   have hBy := hBx.trans (hB7.mono hBx.size)
   go_wp2_with fail
   go_roundw
   case rel => exact ⟨i + 1, by omega, by go_num, hBy⟩
   case measure => simp [intOf]; omega
  ·obtain rfl : i = P.length := by omega
   have hlI : ¬ ((P.length : Int) < (P.length : Int)) := by omega
   go_wp2_with fail
   refine (HX.out _ hiw).mono ?_
   rintro e w' ⟨rfl, rfl⟩
   go_wp2_with fail
   refine (HY.out _ hiw).mono ?_
   rintro e w' ⟨rfl, rfl⟩
   go_wp2_with fail
   refine (HZ.out _ hiw).mono ?_
   rintro e w' ⟨z, rfl, hz, m1, rfl⟩
   go_wp2_with fail
   refine (HZ.out _ (by exact hiw)).mono ?_
   rintro e w' ⟨z2, rfl, hz2, m2, rfl⟩
   have HBZ := HBT.out z2 hz2
   go_wp2_with fail
   refine (HBZ _).mono ?_
   rintro e w' ⟨k, rfl, hk, rfl⟩
   have hkI : (z2 : Int) ≤ (k : Int) := by omega
   go_wp2_with fail
   go_ret
   exact ⟨by first | rfl | simp, below_drewN hBw _⟩
end Go.Proofs.YtgpbpgpolpakjaaGreatDoor
