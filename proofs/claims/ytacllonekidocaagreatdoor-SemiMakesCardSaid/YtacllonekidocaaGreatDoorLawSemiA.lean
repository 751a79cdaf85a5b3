/- Walks: the law SemiTwo returns true. -/
import Derived.Test.YtacllonekidocaaGreatDoorSemiC
set_option linter.unusedVariables false
set_option linter.unusedSimpArgs false
set_option maxRecDepth 100000
namespace Go.Proofs.YtacllonekidocaaGreatDoor
open Go.RowKit Go.Shelf L

theorem L.nb_join (s t : ByteArray) : nb (s ++ t) = nb s ++ nb t := by
  unfold nb
  rw [ByteArray.data_append, Array.toList_append, List.map_append]
/-- A text that is always the same. -/
def txt14 : ByteArray := { data := #[91, 49, 44, 50, 93] }
theorem L.txt14_nb : nb txt14 = [91, 49, 44, 50, 93] := rfl
theorem L.txt14_look : lookN (nb txt14) = 0 := by rw [txt14_nb]; rfl
theorem L.txt14_places : places (nb txt14) = [0, 2, 4] := by rw [txt14_nb]; rfl

set_option maxHeartbeats 400000 in
theorem awake14 (w : World) : Calls Tryz.prog 7 #[] w fun e w' => e = .returned (.bool true) ∧ Below w.heap.size w w' := by
  have HM := hid (show Calls Tryz.prog 8 #[.string { data := #[91, 49, 44, 50, 93] }] w _ from semiMake_ok txt14 w txt14_look (by rw [txt14_places]; decide))
  have HK := hid (fun g W hW => (show Calls Tryz.prog 9 #[.pointer (some ⟨g, 0, none⟩)] W fun e w' => e = .returned (.int .i64 3) ∧ W = w' from by have := semiMarks_any g txt14 W hW; rw [txt14_places] at this; exact this))
  go_enter Tryz.func7, Tryz.ntmps7
  go_wp2_with fail
  refine (HM.out).mono ?_
  rintro e w1 ⟨g, rfl, hg, hB1⟩
  go_wp2_with fail
  refine (HK.out _ _ hg).mono ?_
  rintro e w' ⟨rfl, rfl⟩
  go_wp2_with fail
  go_ret
  exact ⟨rfl, hB1⟩

/-- Whether a record has an index. -/
theorem semiMake_any (s : ByteArray) (w : World) (hm : s.size ≤ 10000) :
    Calls Tryz.prog 8 #[.string s] w fun e w' => (∃ v : Value, e = .returned (.tuple #[v, .int .i64 (lookN (nb s) : Nat)]) ∧ (lookN (nb s) = 0 → ∃ g, v = .pointer (some ⟨g, 0, none⟩) ∧ IdxAt w' g s) ∧ (lookN (nb s) ≠ 0 → v = .pointer none)) ∧ Below w.heap.size w w' := by
  by_cases h : lookN (nb s) = 0
  · refine (semiMake_ok s w h (by rw [places_length]; have := mks_length (nb s); rw [nb_length] at this; omega)).mono ?_
    rintro e w' ⟨g, rfl, hi, hB⟩
    exact ⟨⟨_, by rw [h]; rfl, fun _ => ⟨g, rfl, hi⟩, fun h2 => absurd h h2⟩, hB⟩
  · refine (semiMake_not s w h).mono ?_
    rintro e w' ⟨rfl, hB⟩
    exact ⟨⟨_, rfl, fun h2 => absurd h2 h, fun _ => rfl⟩, hB⟩

/-- Two texts in an array. -/
def arrS (s t : ByteArray) : ByteArray := ByteArray.mk #[91] ++ s ++ ByteArray.mk #[44] ++ t ++ ByteArray.mk #[93]
theorem arrS_nb (s t : ByteArray) : nb (arrS s t) = arr2 (nb s) (nb t) := by
  unfold arrS arr2
  simp only [nb_join]; rfl

end Go.Proofs.YtacllonekidocaaGreatDoor
