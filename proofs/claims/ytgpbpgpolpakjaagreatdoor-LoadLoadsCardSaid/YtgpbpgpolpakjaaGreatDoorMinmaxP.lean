/- Proof text. -/
import Derived.Test.YtgpbpgpolpakjaaGreatDoorMinmaxQ
set_option maxHeartbeats 1000000
set_option linter.unusedVariables false
set_option linter.unusedSimpArgs false
set_option maxRecDepth 100000
namespace Go.Proofs.YtgpbpgpolpakjaaGreatDoor
open Go.RowKit L
theorem L.zwr (f : Nat → Bool) : sh f 0 = f := by funext i; unfold sh; rw [Nat.zero_add]
theorem zxz (g gl gx : Nat) (A : Option Addr) (c : Nat) (bs : List Bool) (h : Nat) (w : World) (t : zbs w g gl gx A c bs h) :
  Calls Tryz.prog 185 #[.pointer (some ⟨g, 0, none⟩)] w fun e w' => e = .returned (.int .i64 (640 * 2 ^ h : Nat)) ∧ w = w' := by
 have hsm := t.row.small
 have hFs := zkp t.least hsm
 have k1 : w.cell? ⟨g, 1, none⟩ = some (.slice (some ⟨gl, 0, none⟩) (2 * 2 ^ h) (2 * 2 ^ h)) := t.blk.cell 1
 clear t
 obtain ⟨M, hM⟩ : ∃ M, M = 2 * 2 ^ h := ⟨_, rfl⟩
 rw [show 640 * 2 ^ h = M * 320 by omega]
 rw [← hM] at k1
 have hMw : IntKind.i64.wrap ((M : Int) * 320) = ((M * 320 : Nat) : Int) := by rw [IntKind.wrap_i64]; omega
 clear hM
 go_enter Tryz.func185, Tryz.ntmps185
 go_wp2_with fail
 go_ret
 exact ⟨by go_num, rfl⟩
theorem z8g (a : Int) (h : Small a) : (FloatKind.f64.format.order (fl a) 0 == some .gt || FloatKind.f64.format.order (fl a) 0 == some .eq) = decide (0 ≤ a) := by
 have := z8x a 0 h (by unfold Small; omega)
 rw [zko] at this; exact this
theorem zii (g gl gx : Nat) (A : Option Addr) (c : Nat) (bs : List Bool) (h : Nat) (w : World) (t : zbs w g gl gx A c bs h) :
  Calls Tryz.prog 88 #[.pointer (some ⟨g, 0, none⟩)] w fun e w' => e = .returned (.bool (bal (zb bs) bs.length)) ∧ w = w' := by
 have hsm := t.row.small
 have hFs := zkp t.least hsm
 have hF1 := Nat.two_pow_pos h
 have hcl := t.row.cells.2
 have k0 : w.cell? ⟨g, 0, none⟩ = some (.pointer (some ⟨gx, 0, none⟩)) := t.blk.cell 0
 have k1 : w.cell? ⟨g, 1, none⟩ = some (.slice (some ⟨gl, 0, none⟩) (2 * 2 ^ h) (2 * 2 ^ h)) := t.blk.cell 1
 have cE : w.cell? ⟨gl, 3, none⟩ = some (.int .i64 (nE (zb bs) bs.length (2 ^ h) 1)) := t.cellE (i := 1) (by omega) (by omega)
 have cF : w.cell? ⟨gl, 4, none⟩ = some (.complex .f64 (lxf (nF (zb bs) bs.length (2 ^ h) 1)) (uxf (nF (zb bs) bs.length (2 ^ h) 1))) := t.cellF (i := 1) (by omega) (by omega)
 have HRO := z7t bs.length h t.fits
 have e1 : nE (zb bs) bs.length (2 ^ h) 1 = ex (zb bs) bs.length := by
  unfold nE eb; rw [HRO.1, HRO.2, zwr, Nat.sub_zero]
 have hex := zcp (zb bs) bs.length
 have hlo := zg5 (zb bs) bs.length
 rw [e1] at cE
 obtain ⟨M, hM⟩ : ∃ M, M = 2 * 2 ^ h := ⟨_, rfl⟩
 rw [← hM] at k1
 have hM1 : (1 : Int) < (M : Int) := by omega
 clear hM
 have HB := hid (show bal (zb bs) bs.length = (decide (ex (zb bs) bs.length = 0) && decide (0 ≤ lo (zb bs) bs.length)) from rfl)
 rcases Nat.eq_zero_or_pos bs.length with h0 | h0
 ·have HT := hid (show bal (zb bs) bs.length = true by rw [h0]; rfl)
  have g0 : ((bs.length : Int) == 0) = true := by rw [beq_iff_eq]; omega
  clear t h0
  generalize bs.length = n at *
  go_enter Tryz.func88, Tryz.ntmps88
  go_wp2_with fail
  refine (zar gx (n : Nat) _ hcl).mono ?_
  rintro e w' ⟨rfl, rfl⟩
  go_wp2_with fail
  go_ret
  exact ⟨by rw [HT.out]; rfl, rfl⟩
 ·have g0 : ((bs.length : Int) == 0) = false := by rw [beq_eq_false_iff_ne]; omega
  have g0N : ¬ bs.length = 0 := by omega
  have e2 : nF (zb bs) bs.length (2 ^ h) 1 = some (lo (zb bs) bs.length, hi (zb bs) bs.length) := by
   unfold nF rf; rw [HRO.1, HRO.2, zwr, Nat.sub_zero, if_neg (by omega)]
  rw [e2] at cF
  have cF' : w.cell? ⟨gl, 4, none⟩ = some (.complex .f64 (fl (lo (zb bs) bs.length)) (fl (hi (zb bs) bs.length))) := cF
  have hge := z8g (lo (zb bs) bs.length) (by unfold Small; omega)
  clear t cF e1 e2 HRO
  generalize ex (zb bs) bs.length = X at *
  generalize lo (zb bs) bs.length = L1 at *
  generalize hi (zb bs) bs.length = L2 at *
  by_cases hX : X = 0
  ·have g1 : (X == 0) = true := by rw [beq_iff_eq]; exact hX
   subst hX
   go_enter Tryz.func88, Tryz.ntmps88
   go_wp2_with fail
   refine (zar gx (bs.length : Nat) _ hcl).mono ?_
   rintro e w' ⟨rfl, rfl⟩
   go_wp2_with fail
   go_ret
   exact ⟨by rw [HB.out]; first | rfl | simp, rfl⟩
  ·have g1 : (X == 0) = false := by rw [beq_eq_false_iff_ne]; exact hX
   go_enter Tryz.func88, Tryz.ntmps88
   go_wp2_with fail
   refine (zar gx (bs.length : Nat) _ hcl).mono ?_
   rintro e w' ⟨rfl, rfl⟩
   go_wp2_with fail
   go_ret
   exact ⟨by rw [HB.out, decide_eq_false hX]; first | rfl | simp, rfl⟩
namespace L
section
variable {f : Nat → Bool} {n h p : Nat} {d : Int} {k : Nat} {e : Int}
end
end L
open Go.RowKit L
namespace L
section
variable {f : Nat → Bool} {n h p : Nat} {d : Int} {k : Nat} {e : Int}
end
end L
end Go.Proofs.YtgpbpgpolpakjaaGreatDoor
