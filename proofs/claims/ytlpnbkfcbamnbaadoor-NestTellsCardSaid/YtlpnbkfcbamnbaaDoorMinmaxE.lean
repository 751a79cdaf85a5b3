/- Walks: what a tree tells (minmax): excesses, what may be, balance, size. -/
import Derived.Test.YtlpnbkfcbamnbaaDoorMinmaxD
set_option linter.unusedVariables false
set_option linter.unusedSimpArgs false
set_option maxRecDepth 100000
namespace Go.Proofs.YtlpnbkfcbamnbaaDoor
open Go.RowKit L

theorem L.held_clamp (n : Nat) (i : Int) : ((held n i : Nat) : Int) = min (max i 0) (n : Int) := by unfold held; omega

set_option maxHeartbeats 1000000 in
theorem mmExcess_any (g gl gx : Nat) (A : Option Addr) (c : Nat) (bs : List Bool) (h : Nat) (i : Int) (w : World) (t : TreeAt w g gl gx A c bs h) :
    Calls Tryd.prog 75 #[.pointer (some ⟨g, 0, none⟩), .int .i64 i] w fun e w' => e = .returned (.int .i64 (eb (bitAt bs) 0 (held bs.length i))) ∧ ∃ m, w' = w.drewN m := by
  have hsm := t.row.small
  have hr := t.row
  have hcl := hr.cells.2
  have hFs := pow_small t.least hsm
  have hF1 := Nat.two_pow_pos h
  have hfit := t.fits
  have k0 : w.cell? ⟨g, 0, none⟩ = some (.pointer (some ⟨gx, 0, none⟩)) := t.blk.cell 0
  have k1 : w.cell? ⟨g, 1, none⟩ = some (.slice (some ⟨gl, 0, none⟩) (2 * 2 ^ h) (2 * 2 ^ h)) := t.blk.cell 1
  have k2 : w.cell? ⟨g, 2, none⟩ = some (.int .i64 (2 ^ h : Nat)) := t.blk.cell 2
  have hp := held_le bs.length i
  have hpI := held_clamp bs.length i
  have HCE := hid (fun k (h0 : 0 < k) (hk : k < 2 * 2 ^ h) => t.cellE h0 hk)
  have HRO := n_root bs.length h hfit
  have HCH := hid (fun j h0 hj => n_child bs.length h j h0 hj)
  have HLE := hid (fun j hj hj2 => n_leaf bs.length h j hj hj2)
  have HAB := hid (fun j hj => nA_le bs.length (2 ^ h) j hj)
  have HNE := hid (show ∀ j, nE (bitAt bs) bs.length (2 ^ h) j = eb (bitAt bs) (nA bs.length (2 ^ h) j) (nB bs.length (2 ^ h) j) from fun j => rfl)
  clear t
  generalize held bs.length i = p at *
  have hcp : min (max i 0) (bs.length : Int) = (p : Int) := hpI.symm
  have HEX := hid (fun W hW => pExcess_nat gx A c bs (512 * (p / 512)) p W hW (by omega) hp)
  have HEQ := hid (show ∀ q, q ≤ p → eb (bitAt bs) 0 q + eb (bitAt bs) q p = eb (bitAt bs) 0 p from fun q hq => eb_add _ _ _ _ (by omega) hq)
  have HE2 := hid (show ∀ a b, a ≤ b → eb (bitAt bs) 0 a + eb (bitAt bs) a b = eb (bitAt bs) 0 b from fun a b hq => eb_add _ _ _ _ (by omega) hq)
  have HSM := hid (show ∀ q, q ≤ bs.length → -4294967296 ≤ eb (bitAt bs) 0 q ∧ eb (bitAt bs) 0 q ≤ 4294967296 from fun q hq => by have := eb_abs (bitAt bs) 0 q; omega)
  obtain ⟨F, hF⟩ : ∃ F, 2 ^ h = F := ⟨_, rfl⟩
  rw [hF] at k1 k2 hFs hF1 hfit HCE HRO HCH HLE HAB HNE
  clear hF
  obtain ⟨M, hM⟩ : ∃ M, M = 2 * F := ⟨_, rfl⟩
  rw [← hM] at k1 HCE
  have HME := hid hM
  clear hM hpI
  have hMw : IntKind.i64.wrap (2 * (F : Int)) = (M : Int) := by have := HME.out; rw [IntKind.wrap_i64]; omega
  obtain ⟨B, hB⟩ : ∃ B, B = p / 512 := ⟨_, rfl⟩
  have hBI : (p : Int) / 512 = (B : Int) := by omega
  rw [← hB] at HEX
  have HBE := hid hB
  have hBF : B ≤ F := by omega
  obtain ⟨K0, hK0⟩ : ∃ K0, K0 = F + B := ⟨_, rfl⟩
  have hKw : IntKind.i64.wrap ((F : Int) + (B : Int)) = (K0 : Int) := by rw [IntKind.wrap_i64]; omega
  have hSw : IntKind.i64.wrap ((B : Int) * 512) = ((512 * B : Nat) : Int) := by rw [IntKind.wrap_i64]; omega
  have HKE := hid hK0
  clear hB hK0
  have hMb : M ≤ 33554432 := by have := HME.out; omega
  go_enter Tryd.func75, Tryd.ntmps75
  go_wp2_with fail
  refine (rlen_any gx (bs.length : Nat) _ hcl).mono ?_
  rintro e w' ⟨rfl, rfl⟩
  go_wp2_with fail
  refine (HEX.out _ hr).mono ?_
  rintro e w' ⟨rfl, m1, rfl⟩
  have hk1m : (w.drewN m1).cell? ⟨g, 1, none⟩ = some (.slice (some ⟨gl, 0, none⟩) M M) := k1
  by_cases hend : K0 = M
  · have g0 : ((K0 : Int) == (M : Int)) = true := by rw [beq_iff_eq]; omega
    have hE1 := HCE.out 1 (by omega) (by have := HME.out; omega)
    rw [HNE.out, HRO.1, HRO.2] at hE1
    have hpn : p = bs.length := by have := HME.out; have := HKE.out; have := HBE.out; omega
    rw [← hpn] at hE1
    have hM1 : (1 : Int) < (M : Int) := by have := HME.out; omega
    have hE1' : w.cell? ⟨gl, 3, none⟩ = some (.int .i64 (eb (bitAt bs) 0 p)) := hE1
    generalize hE : eb (bitAt bs) 0 p = E at *
    have HEE := hid hE
    clear HEX HEQ HE2 HSM hE1 hE
    go_wp2_with fail
    go_ret
    exact ⟨by rw [HEE.out]; rfl, m1, rfl⟩
  · have g0 : ((K0 : Int) == (M : Int)) = false := by rw [beq_eq_false_iff_ne]; omega
    have hst := HLE.out K0 (by have := HKE.out; omega) (by have := HME.out; have := HKE.out; omega)
    have hA0 : nA bs.length F K0 = 512 * B := by rw [hst.1]; have := HKE.out; have := HBE.out; omega
    clear hst
    go_wp2_with fail
    go_loopw [5, 6] (fun kv ev wr => ∃ k : Nat, 1 ≤ k ∧ k < M ∧ kv = .int .i64 (k : Nat) ∧ nA bs.length F k ≤ p ∧ ev = .int .i64 (eb (bitAt bs) (nA bs.length F k) p) ∧ wr = w.drewN m1) (fun kv _ _ => (intOf kv).toNat)
    case atStart => exact ⟨K0, by have := HKE.out; omega, by have := HME.out; have := HKE.out; omega, rfl, by rw [hA0]; have := HBE.out; omega, by rw [hA0], rfl⟩
    case round =>
      obtain ⟨k, hk1, hkM, rfl, hkp, rfl, rfl⟩ := hrel
      clear HEX hcp
      have hkI : (0 : Int) ≤ (k : Int) := by omega
      have hE0 := HEQ.out _ hkp
      have hs1 := HSM.out _ hp
      by_cases h1 : k = 1
      · subst h1
        have g1 : ¬ ((1 : Int) < 1) := by omega
        rw [HRO.1]
        rw [HRO.1, eb_self] at hE0
        generalize hE : eb (bitAt bs) 0 p = E at *
        have HEE := hid hE
        clear hE
        go_wp2_with fail
        go_ret
        exact ⟨by rw [HEE.out]; rfl, m1, rfl⟩
      · have g1 : (1 : Int) < (k : Int) := by omega
        obtain ⟨j, hj⟩ : ∃ j, j = k / 2 := ⟨_, rfl⟩
        have hjI : (k : Int) / 2 = (j : Int) := by omega
        have hch := HCH.out j (by omega) (by have := HME.out; omega)
        have hs2 := HSM.out _ (Nat.le_trans hkp hp)
        rcases Nat.mod_two_eq_zero_or_one k with h2 | h2
        · have g2 : ((k : Int) % 2) = 0 := by omega
          have hkj : 2 * j = k := by omega
          rw [hkj] at hch
          have hkA : nA bs.length F k = nA bs.length F j := hch.1
          rw [hkA] at hkp ⊢
          have HJ := hid hj
          clear hj hkj hch hE0 hs1 hs2 HCH HCE HEQ HE2 HSM
          go_wp2_with fail
          go_roundw
          case rel => exact ⟨j, by have := HJ.out; omega, by have := HJ.out; omega, rfl, hkp, rfl, trivial⟩
          case measure => have := HJ.out; simp [intOf]; omega
        · have g2 : ((k : Int) % 2) = 1 := by omega
          obtain ⟨a, ha⟩ : ∃ a, a = k - 1 := ⟨_, rfl⟩
          have hka : 2 * j = a := by omega
          rw [show 2 * j + 1 = k by omega, hka] at hch
          have haw : IntKind.i64.wrap ((k : Int) - 1) = (a : Int) := by rw [IntKind.wrap_i64]; omega
          have haM : (a : Int) < (M : Int) := by omega
          have ha0 : (0 : Int) ≤ (a : Int) := by omega
          have hca : w.cell? ⟨gl, a * 3, none⟩ = some (.int .i64 (nE (bitAt bs) bs.length F a)) := by rw [Nat.mul_comm]; exact HCE.out a (by omega) (by omega)
          have hca' : (w.drewN m1).cell? ⟨gl, a * 3, none⟩ = some (.int .i64 (nE (bitAt bs) bs.length F a)) := hca
          have hab := (HAB.out a (by omega)).1
          have hje : eb (bitAt bs) (nA bs.length F k) p + nE (bitAt bs) bs.length F a = eb (bitAt bs) (nA bs.length F j) p := by
            rw [HNE.out, hch.1, hch.2.1]
            rw [hch.1, hch.2.1] at hab
            have q1 := HE2.out _ _ hab
            have q2 := HEQ.out (nA bs.length F j) (Nat.le_trans hab hkp)
            omega
          have hjp : nA bs.length F j ≤ p := by rw [hch.1, hch.2.1] at hab; exact Nat.le_trans hab hkp
          have hs3 := HEQ.out _ hjp
          have hs4 := HSM.out _ (Nat.le_trans hjp hp)
          have hsum : IntKind.i64.wrap (eb (bitAt bs) (nA bs.length F k) p + nE (bitAt bs) bs.length F a) = eb (bitAt bs) (nA bs.length F j) p := by rw [hje, IntKind.wrap_i64]; omega
          have HJ := hid hj
          clear hj hka hch hE0 hs1 hs2 HCH HCE HEQ HE2 HSM hje hs3 hs4 hab ha
          go_wp2_with fail
          go_roundw
          case rel => exact ⟨j, by have := HJ.out; omega, by have := HJ.out; omega, rfl, hjp, rfl, trivial⟩
          case measure => have := HJ.out; simp [intOf]; omega
end Go.Proofs.YtlpnbkfcbamnbaaDoor
