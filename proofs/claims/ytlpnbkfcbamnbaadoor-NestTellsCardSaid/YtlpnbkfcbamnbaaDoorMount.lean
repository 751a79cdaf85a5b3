/- Plain laws: a row of so many ( and as many ). -/
import Derived.Test.YtlpnbkfcbamnbaaDoorLawMinA
import Derived.Test.YtlpnbkfcbamnbaaDoorMathU
set_option linter.unusedVariables false
set_option linter.unusedSimpArgs false
namespace Go.Proofs.YtlpnbkfcbamnbaaDoor
open L
namespace L
/-- So many (, and as many ). -/
def mount (k : Nat) : List Bool := List.replicate k true ++ List.replicate k false
theorem mount_length (k : Nat) : (mount k).length = 2 * k := by unfold mount; simp; omega
theorem mount_bit (k i : Nat) (h : i < 2 * k) : bitAt (mount k) i = decide (i < k) := by
  unfold bitAt mount
  rcases Nat.lt_or_ge i k with h1 | h1
  · rw [List.getElem?_append_left (by simpa using h1)]; simp [h1]
  · rw [List.getElem?_append_right (by simpa using h1)]
    have : i - k < k := by omega
    simp [this]; omega
theorem mount_eb (k : Nat) : ∀ m, m ≤ 2 * k → eb (bitAt (mount k)) 0 m = min (m : Int) (2 * (k : Int) - m)
  | 0, _ => by rw [eb_self]; omega
  | m + 1, h => by
    rw [eb_succ _ 0 m (Nat.zero_le _), mount_eb k m (by omega), mount_bit k m (by omega)]
    by_cases h1 : m < k
    · simp [h1, sgn]; omega
    · simp [h1, sgn]; omega
theorem mount_eb2 (k a m : Nat) (h1 : a ≤ m) (h : m ≤ 2 * k) : eb (bitAt (mount k)) a m = min (m : Int) (2 * (k : Int) - m) - min (a : Int) (2 * (k : Int) - a) := by
  have h2 := eb_add (bitAt (mount k)) 0 a m (by omega) h1
  rw [mount_eb k m h, mount_eb k a (by omega)] at h2
  omega
theorem mount_bal (k : Nat) : bal (bitAt (mount k)) (mount k).length = true := by
  have e : ∀ m, ex (bitAt (mount k)) m = eb (bitAt (mount k)) 0 m := fun m => by unfold eb; rw [sh_zero, Nat.sub_zero]
  rw [mount_length, bal_iff]
  refine ⟨by rw [e, mount_eb k _ (Nat.le_refl _)]; omega, fun m hm => by rw [e, mount_eb k m hm]; omega⟩
theorem mount_pieces (k : Nat) (h : k ≤ 2000) : pieceBits [(true, k), (false, k)] = mount k := by
  unfold pieceBits mount
  show pieceGo [] [(true, k), (false, k)] = _
  simp only [pieceGo, List.nil_append, List.length_nil, List.length_replicate]
  rw [show min k (4000 - 0) = k from by omega, show min k (4000 - k) = k from by omega]
end L
end Go.Proofs.YtlpnbkfcbamnbaaDoor
