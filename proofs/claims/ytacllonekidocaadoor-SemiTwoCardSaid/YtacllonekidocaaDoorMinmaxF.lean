/- Walks: what may be, what is met, balance, size (minmax). -/
import Derived.Test.YtacllonekidocaaDoorMinmaxE
set_option linter.unusedVariables false
set_option linter.unusedSimpArgs false
set_option maxRecDepth 100000
namespace Go.Proofs.YtacllonekidocaaDoor
open Go.RowKit L

theorem L.sh_zero (f : Nat → Bool) : sh f 0 = f := by funext i; unfold sh; rw [Nat.zero_add]
theorem ge_fl0 (a : Int) (h : Small a) : (FloatKind.f64.format.order (fl a) 0 == some .gt || FloatKind.f64.format.order (fl a) 0 == some .eq) = decide (0 ≤ a) := by
  have := ge_fl a 0 h (by unfold Small; omega)
  rw [fl_nil] at this; exact this

set_option maxHeartbeats 1000000 in
theorem mmBalanced_any (g gl gx : Nat) (A : Option Addr) (c : Nat) (bs : List Bool) (h : Nat) (w : World) (t : TreeAt w g gl gx A c bs h) :
    Calls Tryd.prog 32 #[.pointer (some ⟨g, 0, none⟩)] w fun e w' => e = .returned (.bool (bal (bitAt bs) bs.length)) ∧ w = w' := by
  have hsm := t.row.small
  have hFs := pow_small t.least hsm
  have hF1 := Nat.two_pow_pos h
  have hcl := t.row.cells.2
  have k0 : w.cell? ⟨g, 0, none⟩ = some (.pointer (some ⟨gx, 0, none⟩)) := t.blk.cell 0
  have k1 : w.cell? ⟨g, 1, none⟩ = some (.slice (some ⟨gl, 0, none⟩) (2 * 2 ^ h) (2 * 2 ^ h)) := t.blk.cell 1
  have cE : w.cell? ⟨gl, 3, none⟩ = some (.int .i64 (nE (bitAt bs) bs.length (2 ^ h) 1)) := t.cellE (i := 1) (by omega) (by omega)
  have cF : w.cell? ⟨gl, 4, none⟩ = some (.complex .f64 (lxf (nF (bitAt bs) bs.length (2 ^ h) 1)) (uxf (nF (bitAt bs) bs.length (2 ^ h) 1))) := t.cellF (i := 1) (by omega) (by omega)
  have HRO := n_root bs.length h t.fits
  have e1 : nE (bitAt bs) bs.length (2 ^ h) 1 = ex (bitAt bs) bs.length := by
    unfold nE eb; rw [HRO.1, HRO.2, sh_zero, Nat.sub_zero]
  have hex := ex_abs (bitAt bs) bs.length
  have hlo := lo_bound (bitAt bs) bs.length
  rw [e1] at cE
  obtain ⟨M, hM⟩ : ∃ M, M = 2 * 2 ^ h := ⟨_, rfl⟩
  rw [← hM] at k1
  have hM1 : (1 : Int) < (M : Int) := by omega
  clear hM
  have HB := hid (show bal (bitAt bs) bs.length = (decide (ex (bitAt bs) bs.length = 0) && decide (0 ≤ lo (bitAt bs) bs.length)) from rfl)
  rcases Nat.eq_zero_or_pos bs.length with h0 | h0
  · have HT := hid (show bal (bitAt bs) bs.length = true by rw [h0]; rfl)
    have g0 : ((bs.length : Int) == 0) = true := by rw [beq_iff_eq]; omega
    clear t h0
    generalize bs.length = n at *
    go_enter Tryd.func32, Tryd.ntmps32
    go_wp2_with fail
    refine (rlen_any gx (n : Nat) _ hcl).mono ?_
    rintro e w' ⟨rfl, rfl⟩
    go_wp2_with fail
    go_ret
    exact ⟨by rw [HT.out]; rfl, rfl⟩
  · have g0 : ((bs.length : Int) == 0) = false := by rw [beq_eq_false_iff_ne]; omega
    have g0N : ¬ bs.length = 0 := by omega
    have e2 : nF (bitAt bs) bs.length (2 ^ h) 1 = some (lo (bitAt bs) bs.length, hi (bitAt bs) bs.length) := by
      unfold nF rf; rw [HRO.1, HRO.2, sh_zero, Nat.sub_zero, if_neg (by omega)]
    rw [e2] at cF
    have cF' : w.cell? ⟨gl, 4, none⟩ = some (.complex .f64 (fl (lo (bitAt bs) bs.length)) (fl (hi (bitAt bs) bs.length))) := cF
    have hge := ge_fl0 (lo (bitAt bs) bs.length) (by unfold Small; omega)
    clear t cF e1 e2 HRO
    generalize ex (bitAt bs) bs.length = X at *
    generalize lo (bitAt bs) bs.length = L1 at *
    generalize hi (bitAt bs) bs.length = L2 at *
    by_cases hX : X = 0
    · have g1 : (X == 0) = true := by rw [beq_iff_eq]; exact hX
      subst hX
      go_enter Tryd.func32, Tryd.ntmps32
      go_wp2_with fail
      refine (rlen_any gx (bs.length : Nat) _ hcl).mono ?_
      rintro e w' ⟨rfl, rfl⟩
      go_wp2_with fail
      go_ret
      exact ⟨by rw [HB.out]; first | rfl | simp, rfl⟩
    · have g1 : (X == 0) = false := by rw [beq_eq_false_iff_ne]; exact hX
      go_enter Tryd.func32, Tryd.ntmps32
      go_wp2_with fail
      refine (rlen_any gx (bs.length : Nat) _ hcl).mono ?_
      rintro e w' ⟨rfl, rfl⟩
      go_wp2_with fail
      go_ret
      exact ⟨by rw [HB.out, decide_eq_false hX]; first | rfl | simp, rfl⟩
end Go.Proofs.YtacllonekidocaaDoor
