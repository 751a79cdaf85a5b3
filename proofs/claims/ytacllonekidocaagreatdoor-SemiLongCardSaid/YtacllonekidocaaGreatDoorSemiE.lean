/- Walks: the size of an index, its bound (the reference of chapter 14). -/
import Derived.Test.YtacllonekidocaaGreatDoorSemiD
set_option linter.unusedVariables false
set_option linter.unusedSimpArgs false
set_option maxRecDepth 100000
namespace Go.Proofs.YtacllonekidocaaGreatDoor
open Go.RowKit Go.Shelf L

set_option maxHeartbeats 1000000 in
theorem semiSize_any (g : Nat) (s : ByteArray) (w : World) (hi : IdxAt w g s) (hs : (nb s).length ≤ 65536) (hm : (places (nb s)).length ≤ 10000) :
    Calls Tryz.prog 12 #[.pointer (some ⟨g, 0, none⟩)] w fun e w' => ∃ a : Nat, e = .returned (.int .i64 (a : Nat)) ∧ a ≤ szMax (nb s) ∧ ∃ m, w' = w.drewN m := by
  have HS := hid (semiSizes_any g s w hi hs hm)
  clear hi hs hm
  generalize szMax (nb s) = mx at *
  go_enter Tryz.func12, Tryz.ntmps12
  go_wp2_with fail
  refine (HS.out).mono ?_
  rintro e w' ⟨a, b, rfl, h1, h2, m, rfl⟩
  have sa : Small (a : Int) := by unfold Small; omega
  have sb : Small (b : Int) := by unfold Small; omega
  have sab : Small ((a : Int) + (b : Int)) := by unfold Small; omega
  have hadd : floatBits .add .f64 (fl (a : Int)) (fl (b : Int)) = some (fl ((a : Int) + (b : Int))) := by
    have hf : FloatKind.f64.format = Ieee.double := rfl
    have := add_fl (a : Int) (b : Int) sa sb sab
    simp [floatBits, hf, this]
  have hcv : floatToIntVal .f64 (fl ((a : Int) + (b : Int))) .i64 = some ((a : Int) + (b : Int)) := by
    have e : (a : Int) + (b : Int) = ((a + b : Nat) : Int) := by omega
    rw [e]; exact toInt_fl (a + b) (by rw [← e]; exact sab) (by omega)
  have hra := fun W t => run_float_arith (P := Tryz.prog) W .add t .f64 (fl (a : Int)) (fl (b : Int)) _ hadd
  have hrc := fun W => run_convert_float_int (P := Tryz.prog) W 64 3 .f64 .i64 (fl ((a : Int) + (b : Int))) _ (by rw [Tryz.underlying64]; rfl) Tryz.underlying3 hcv
  go_wp2_with (simp only [hra, hrc])
  go_ret
  exact ⟨a + b, by first | rfl | simp, h1, m, rfl⟩

set_option maxHeartbeats 400000 in
theorem refBits14_any (n m : Nat) (w : World) (hn : n ≤ 65536) (hm : 1 ≤ m) (hm2 : m ≤ 10000) :
    Calls Tryz.prog 13 #[.int .i64 (n : Nat), .int .i64 (m : Nat)] w fun e w' => ∃ k : Nat, e = .returned (.int .i64 (bits14 m k : Nat)) ∧ n ≤ m * 2 ^ k ∧ w = w' := by
  have hm0 : (0 : Int) < (m : Int) := by omega
  go_enter Tryz.func13, Tryz.ntmps13
  go_wp2_with fail
  go_loopw [5] (fun kv wr => ∃ k : Nat, k ≤ 16 ∧ kv = .int .i64 (k : Nat) ∧ Hid (k = 0 ∨ m * 2 ^ (k - 1) < n) ∧ wr = w) (fun kv _ => 17 - (intOf kv).toNat)
  case atStart => exact ⟨0, by omega, rfl, hid (Or.inl rfl), rfl⟩
  case round =>
    obtain ⟨k, hk, rfl, hp, rfl⟩ := hrel
    obtain ⟨X, hX⟩ : ∃ X, X = m * 2 ^ k := ⟨_, rfl⟩
    obtain ⟨Y, hY⟩ : ∃ Y, Y = m * k := ⟨_, rfl⟩
    have hp16 : 2 ^ k ≤ 2 ^ 16 := Nat.pow_le_pow_right (by omega) hk
    have hXb : X ≤ 10000 * 2 ^ 16 := by rw [hX]; exact Nat.mul_le_mul hm2 hp16
    have hYb : Y ≤ 10000 * 16 := by rw [hY]; exact Nat.mul_le_mul hm2 hk
    have hXI : (m : Int) * 2 ^ k = (X : Int) := by rw [hX]; simp
    have hYI : (m : Int) * (k : Int) = (Y : Int) := by rw [hY]; simp
    have hXb2 : X ≤ 655360000 := by omega
    have hk0 : (0 : Int) ≤ (k : Int) := by omega
    rcases Nat.lt_or_ge X n with hlt | hge
    · have hltI : (X : Int) < (n : Int) := by omega
      have hkl : k < 16 := by
        refine Classical.byContradiction fun hc => ?_
        have : k = 16 := by omega
        subst this
        have : 1 * 2 ^ 16 ≤ m * 2 ^ 16 := Nat.mul_le_mul_right _ hm
        omega
      have HN := hid (show k + 1 = 0 ∨ m * 2 ^ (k + 1 - 1) < n from Or.inr (by rw [Nat.add_sub_cancel, ← hX]; exact hlt))
      clear hX hY hp16 hXb
      go_wp2_with fail
      exact ⟨⟨k + 1, by omega, by go_num, HN, by first | rfl | trivial⟩, by simp [intOf]; omega⟩
    · have hltI : ¬ ((X : Int) < (n : Int)) := by omega
      have hgeI : (n : Int) ≤ (X : Int) := by omega
      have HX := hid hX
      have HY := hid hY
      clear hX hY hp16 hXb
      go_wp2_with fail
      go_ret
      refine ⟨k, ?_, by rw [← HX.out]; exact hge, rfl⟩
      have e : ((bits14 m k : Nat) : Int) = 4 * (m : Int) + (Y : Int) + 10 * (m : Int) + 8192 := by unfold bits14; rw [← HY.out]; omega
      rw [e]
      first | rfl | simp
end Go.Proofs.YtacllonekidocaaGreatDoor
