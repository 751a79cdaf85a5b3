/- Walks: what may be, what is met, balance, size (minmax). -/
import Derived.Test.YtlpnbkfcbamnbaaDoorMinmaxE
set_option linter.unusedVariables false
set_option linter.unusedSimpArgs false
set_option maxRecDepth 100000
namespace Go.Proofs.YtlpnbkfcbamnbaaDoor
open Go.RowKit L

theorem L.sh_zero (f : Nat → Bool) : sh f 0 = f := by funext i; unfold sh; rw [Nat.zero_add]
theorem mmMay_any (g gl gx : Nat) (A : Option Addr) (c : Nat) (bs : List Bool) (h : Nat) (d : Int) (w : World) (t : TreeAt w g gl gx A c bs h) :
    Calls Tryd.prog 127 #[.pointer (some ⟨g, 0, none⟩), .int .i64 d] w fun e w' => e = .returned (.bool (decide (d ≤ (bs.length : Int)) && decide (-(bs.length : Int) ≤ d))) ∧ w = w' := by
  have hsm := t.row.small
  have hcl := t.row.cells.2
  have k0 : w.cell? ⟨g, 0, none⟩ = some (.pointer (some ⟨gx, 0, none⟩)) := t.blk.cell 0
  have hnw : IntKind.i64.wrap (-(bs.length : Int)) = -(bs.length : Int) := by rw [IntKind.wrap_i64]; omega
  clear t
  by_cases h1 : d ≤ (bs.length : Int)
  · have g1 : decide (d ≤ (bs.length : Int)) = true := decide_eq_true h1
    go_enter Tryd.func127, Tryd.ntmps127
    go_wp2_with fail
    refine (rlen_any gx (bs.length : Nat) _ hcl).mono ?_
    rintro e w' ⟨rfl, rfl⟩
    go_wp2_with fail
    refine (rlen_any gx (bs.length : Nat) _ hcl).mono ?_
    rintro e w' ⟨rfl, rfl⟩
    go_wp2_with fail
    go_ret
    exact ⟨by first | rfl | simp [g1], rfl⟩
  · have g1 : decide (d ≤ (bs.length : Int)) = false := decide_eq_false h1
    go_enter Tryd.func127, Tryd.ntmps127
    go_wp2_with fail
    refine (rlen_any gx (bs.length : Nat) _ hcl).mono ?_
    rintro e w' ⟨rfl, rfl⟩
    go_wp2_with fail
    go_ret
    exact ⟨by first | rfl | simp [g1], rfl⟩

set_option maxHeartbeats 1000000 in
theorem met_any (g gl gx : Nat) (A : Option Addr) (c : Nat) (bs : List Bool) (h i : Nat) (e d : Int) (w : World) (t : TreeAt w g gl gx A c bs h) (h0 : 0 < i) (hi : i < 2 * 2 ^ h) (he : -4294967296 ≤ e ∧ e ≤ 4294967296) (hd : -4294967296 ≤ d ∧ d ≤ 4294967296) :
    Calls Tryd.prog 129 #[.pointer (some ⟨g, 0, none⟩), .int .i64 (i : Nat), .int .i64 e, .int .i64 d] w fun x w' => x = .returned (.bool (inr (nK (bitAt bs) bs.length (2 ^ h) i) (nE (bitAt bs) bs.length (2 ^ h) i + e - d))) ∧ ∃ m, w' = w.drewN m := by
  have hsm := t.row.small
  have k1 : w.cell? ⟨g, 1, none⟩ = some (.slice (some ⟨gl, 0, none⟩) (2 * 2 ^ h) (2 * 2 ^ h)) := t.blk.cell 1
  have cE : w.cell? ⟨gl, i * 3, none⟩ = some (.int .i64 (nE (bitAt bs) bs.length (2 ^ h) i)) := by rw [Nat.mul_comm]; exact t.cellE h0 hi
  have cK : w.cell? ⟨gl, i * 3 + 2, none⟩ = some (.complex .f64 (lxf (nK (bitAt bs) bs.length (2 ^ h) i)) (uxf (nK (bitAt bs) bs.length (2 ^ h) i))) := by rw [Nat.mul_comm]; exact t.cellK h0 hi
  have hs := nE_small (bitAt bs) bs.length (2 ^ h) i hsm (by omega)
  have HW := hid (fun W => within_any (nK (bitAt bs) bs.length (2 ^ h) i) (nE (bitAt bs) bs.length (2 ^ h) i + e - d) W (nK_small _ _ _ _ hsm (by omega)).bd (by omega))
  have hFs := pow_small t.least hsm
  clear t
  obtain ⟨M, hM⟩ : ∃ M, M = 2 * 2 ^ h := ⟨_, rfl⟩
  rw [← hM] at k1 hi
  have hMb : M ≤ 33554432 := by omega
  clear hM hFs
  have hiI : (i : Int) < (M : Int) := by omega
  have hi0 : (0 : Int) ≤ (i : Int) := by omega
  generalize nK (bitAt bs) bs.length (2 ^ h) i = K at *
  generalize nE (bitAt bs) bs.length (2 ^ h) i = E at *
  generalize inr K (E + e - d) = R at *
  have w1 : IntKind.i64.wrap (E + e) = E + e := by rw [IntKind.wrap_i64]; omega
  have w2 : IntKind.i64.wrap (E + e - d) = E + e - d := by rw [IntKind.wrap_i64]; omega
  go_enter Tryd.func129, Tryd.ntmps129
  go_wp2_with fail
  go_quiet ((go_at_call 148; exact quiet_left (HW.out _)))
  go_wp2_with fail
  go_ret
  exact ⟨rfl, _, rfl⟩

theorem mmSize_any (g gl gx : Nat) (A : Option Addr) (c : Nat) (bs : List Bool) (h : Nat) (w : World) (t : TreeAt w g gl gx A c bs h) :
    Calls Tryd.prog 100 #[.pointer (some ⟨g, 0, none⟩)] w fun e w' => e = .returned (.int .i64 (640 * 2 ^ h : Nat)) ∧ w = w' := by
  have hsm := t.row.small
  have hFs := pow_small t.least hsm
  have k1 : w.cell? ⟨g, 1, none⟩ = some (.slice (some ⟨gl, 0, none⟩) (2 * 2 ^ h) (2 * 2 ^ h)) := t.blk.cell 1
  clear t
  obtain ⟨M, hM⟩ : ∃ M, M = 2 * 2 ^ h := ⟨_, rfl⟩
  rw [show 640 * 2 ^ h = M * 320 by omega]
  rw [← hM] at k1
  have hMw : IntKind.i64.wrap ((M : Int) * 320) = ((M * 320 : Nat) : Int) := by rw [IntKind.wrap_i64]; omega
  clear hM
  go_enter Tryd.func100, Tryd.ntmps100
  go_wp2_with fail
  go_ret
  exact ⟨by go_num, rfl⟩

theorem ge_fl0 (a : Int) (h : Small a) : (FloatKind.f64.format.order (fl a) 0 == some .gt || FloatKind.f64.format.order (fl a) 0 == some .eq) = decide (0 ≤ a) := by
  have := ge_fl a 0 h (by unfold Small; omega)
  rw [fl_nil] at this; exact this

set_option maxHeartbeats 1000000 in
theorem mmBalanced_any (g gl gx : Nat) (A : Option Addr) (c : Nat) (bs : List Bool) (h : Nat) (w : World) (t : TreeAt w g gl gx A c bs h) :
    Calls Tryd.prog 68 #[.pointer (some ⟨g, 0, none⟩)] w fun e w' => e = .returned (.bool (bal (bitAt bs) bs.length)) ∧ w = w' := by
  have hsm := t.row.small
  have hFs := pow_small t.least hsm
  have hF1 := Nat.two_pow_pos h
  have hcl := t.row.cells.2
  have k0 : w.cell? ⟨g, 0, none⟩ = some (.pointer (some ⟨gx, 0, none⟩)) := t.blk.cell 0
  have k1 : w.cell? ⟨g, 1, none⟩ = some (.slice (some ⟨gl, 0, none⟩) (2 * 2 ^ h) (2 * 2 ^ h)) := t.blk.cell 1
  have cE : w.cell? ⟨gl, 3, none⟩ = some (.int .i64 (nE (bitAt bs) bs.length (2 ^ h) 1)) := t.cellE (i := 1) (by omega) (by omega)
  have cF : w.cell? ⟨gl, 4, none⟩ = some (.complex .f64 (lxf (nF (bitAt bs) bs.length (2 ^ h) 1)) (uxf (nF (bitAt bs) bs.length (2 ^ h) 1))) := t.cellF (i := 1) (by omega) (by omega)
  have HRO := n_root bs.length h t.fits
  have e1 : nE (bitAt bs) bs.length (2 ^ h) 1 = ex (bitAt bs) bs.length := by
    unfold nE eb; rw [HRO.1, HRO.2, sh_zero, Nat.sub_zero]
  have hex := ex_abs (bitAt bs) bs.length
  have hlo := lo_bound (bitAt bs) bs.length
  rw [e1] at cE
  obtain ⟨M, hM⟩ : ∃ M, M = 2 * 2 ^ h := ⟨_, rfl⟩
  rw [← hM] at k1
  have hM1 : (1 : Int) < (M : Int) := by omega
  clear hM
  have HB := hid (show bal (bitAt bs) bs.length = (decide (ex (bitAt bs) bs.length = 0) && decide (0 ≤ lo (bitAt bs) bs.length)) from rfl)
  rcases Nat.eq_zero_or_pos bs.length with h0 | h0
  · have HT := hid (show bal (bitAt bs) bs.length = true by rw [h0]; rfl)
    have g0 : ((bs.length : Int) == 0) = true := by rw [beq_iff_eq]; omega
    clear t h0
    generalize bs.length = n at *
    go_enter Tryd.func68, Tryd.ntmps68
    go_wp2_with fail
    refine (rlen_any gx (n : Nat) _ hcl).mono ?_
    rintro e w' ⟨rfl, rfl⟩
    go_wp2_with fail
    go_ret
    exact ⟨by rw [HT.out]; rfl, rfl⟩
  · have g0 : ((bs.length : Int) == 0) = false := by rw [beq_eq_false_iff_ne]; omega
    have g0N : ¬ bs.length = 0 := by omega
    have e2 : nF (bitAt bs) bs.length (2 ^ h) 1 = some (lo (bitAt bs) bs.length, hi (bitAt bs) bs.length) := by
      unfold nF rf; rw [HRO.1, HRO.2, sh_zero, Nat.sub_zero, if_neg (by omega)]
    rw [e2] at cF
    have cF' : w.cell? ⟨gl, 4, none⟩ = some (.complex .f64 (fl (lo (bitAt bs) bs.length)) (fl (hi (bitAt bs) bs.length))) := cF
    have hge := ge_fl0 (lo (bitAt bs) bs.length) (by unfold Small; omega)
    clear t cF e1 e2 HRO
    generalize ex (bitAt bs) bs.length = X at *
    generalize lo (bitAt bs) bs.length = L1 at *
    generalize hi (bitAt bs) bs.length = L2 at *
    by_cases hX : X = 0
    · have g1 : (X == 0) = true := by rw [beq_iff_eq]; exact hX
      subst hX
      go_enter Tryd.func68, Tryd.ntmps68
      go_wp2_with fail
      refine (rlen_any gx (bs.length : Nat) _ hcl).mono ?_
      rintro e w' ⟨rfl, rfl⟩
      go_wp2_with fail
      go_ret
      exact ⟨by rw [HB.out]; first | rfl | simp, rfl⟩
    · have g1 : (X == 0) = false := by rw [beq_eq_false_iff_ne]; exact hX
      go_enter Tryd.func68, Tryd.ntmps68
      go_wp2_with fail
      refine (rlen_any gx (bs.length : Nat) _ hcl).mono ?_
      rintro e w' ⟨rfl, rfl⟩
      go_wp2_with fail
      go_ret
      exact ⟨by rw [HB.out, decide_eq_false hX]; first | rfl | simp, rfl⟩
end Go.Proofs.YtlpnbkfcbamnbaaDoor
