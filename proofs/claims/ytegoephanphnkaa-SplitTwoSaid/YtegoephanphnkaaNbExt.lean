/- The bytes of a stretch of a string. -/
import Derived.Test.YtegoephanphnkaaScanB
set_option linter.unusedVariables false
namespace Go.Proofs.Ytegoephanphnkaa
open L
theorem L.nb_ext (s : ByteArray) (a b : Nat) : nb (s.extract a b) = ((nb s).drop a).take (b - a) := by
  unfold nb
  rw [ByteArray.data_extract, Array.toList_extract]
  simp [List.extract, List.map_drop, List.map_take]
theorem L.nb_drop (s : ByteArray) (a : Nat) : nb (s.extract a s.size) = (nb s).drop a := by
  rw [nb_ext, List.take_of_length_le]
  rw [List.length_drop, nb_length]; omega
end Go.Proofs.Ytegoephanphnkaa
