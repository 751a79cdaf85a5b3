/- Walks: the reference of chapter 08: Number. -/
import Derived.Test.YtlpnbkfcbamnbaaDoorNestI
set_option linter.unusedVariables false
set_option linter.unusedSimpArgs false
set_option maxRecDepth 100000
namespace Go.Proofs.YtlpnbkfcbamnbaaDoor
open Go.RowKit L

set_option maxHeartbeats 400000 in
theorem refNumber_at (ab ao len c j : Nat) (f : Nat → Int) (at' : Int) (w : World) (hj : j < len) (hsm : len ≤ 4294967296) (hc : ∀ k, k < len → w.cell? ⟨ab, ao + k * 4, none⟩ = some (.int .i64 (f k))) (he : f j = at') (hq : ∀ k, k < j → f k ≠ at') :
    Calls Tryd.prog 51 #[.slice (some ⟨ab, ao, none⟩) len c, .int .i64 at'] w fun e w' => e = .returned (.int .i64 (j : Nat)) ∧ w = w' := by
  have HC := hid hc
  have HE := hid he
  have HQ := hid hq
  clear hc he hq
  go_enter Tryd.func51, Tryd.ntmps51
  go_wp2_with fail
  go_loopw [5] (fun kv wr => ∃ k : Nat, k ≤ j ∧ kv = .int .i64 (k : Nat) ∧ wr = w) (fun kv _ => len - (intOf kv).toNat)
  case atStart => exact ⟨0, Nat.zero_le _, rfl, rfl⟩
  case round =>
    obtain ⟨k, hk, rfl, rfl⟩ := hrel
    have hkl : k < len := by omega
    have hkI : (k : Int) < (len : Int) := by omega
    have hk0 : (0 : Int) ≤ (k : Int) := by omega
    have wc := HC.out k hkl
    rcases Nat.eq_or_lt_of_le hk with e | e
    · subst e
      rw [HE.out] at wc
      go_wp2_with fail
      go_ret
      exact ⟨rfl, rfl⟩
    · have hne := HQ.out k e
      generalize f k = v at *
      have hb : (v == at') = false := by rw [beq_eq_false_iff_ne]; exact hne
      go_wp2_with fail
      exact ⟨⟨k + 1, by omega, by go_num, by first | rfl | trivial⟩, by simp [intOf]; omega⟩
set_option maxHeartbeats 400000 in
theorem refNumber_none (ab ao len c : Nat) (f : Nat → Int) (at' : Int) (w : World) (hsm : len ≤ 4294967296) (hc : ∀ k, k < len → w.cell? ⟨ab, ao + k * 4, none⟩ = some (.int .i64 (f k))) (hq : ∀ k, k < len → f k ≠ at') :
    Calls Tryd.prog 51 #[.slice (some ⟨ab, ao, none⟩) len c, .int .i64 at'] w fun e w' => e = .returned (.int .i64 (-1)) ∧ w = w' := by
  have HC := hid hc
  have HQ := hid hq
  clear hc hq
  go_enter Tryd.func51, Tryd.ntmps51
  go_wp2_with fail
  go_loopw [5] (fun kv wr => ∃ k : Nat, k ≤ len ∧ kv = .int .i64 (k : Nat) ∧ wr = w) (fun kv _ => len - (intOf kv).toNat)
  case atStart => exact ⟨0, Nat.zero_le _, rfl, rfl⟩
  case round =>
    obtain ⟨k, hk, rfl, rfl⟩ := hrel
    rcases Nat.eq_or_lt_of_le hk with e | e
    · subst e
      have hkI : ¬ ((k : Int) < (k : Int)) := by omega
      go_wp2_with fail
      go_ret
      exact ⟨by first | rfl | simp, rfl⟩
    · have hkI : (k : Int) < (len : Int) := by omega
      have hk0 : (0 : Int) ≤ (k : Int) := by omega
      have wc := HC.out k e
      have hne := HQ.out k e
      generalize f k = v at *
      have hb : (v == at') = false := by rw [beq_eq_false_iff_ne]; exact hne
      go_wp2_with fail
      exact ⟨⟨k + 1, by omega, by go_num, by first | rfl | trivial⟩, by simp [intOf]; omega⟩
end Go.Proofs.YtlpnbkfcbamnbaaDoor
