/- Plain laws: a list of so many numbers of so many digits: a JSON text, its marks. No program in sight. -/
import Derived.Test.YtacllonekidocaaGreatDoorMarkP
set_option linter.unusedVariables false
set_option linter.unusedSimpArgs false
namespace Go.Proofs.YtacllonekidocaaGreatDoor.L

/-- So many digits, and a comma. -/
def unit7 (d : Nat) : List Nat := List.replicate d 55 ++ [44]
def units7 (d : Nat) : Nat → List Nat
  | 0 => []
  | i + 1 => units7 d i ++ unit7 d
theorem unit7_length (d : Nat) : (unit7 d).length = d + 1 := by simp [unit7]
theorem units7_length (d : Nat) : ∀ i, (units7 d i).length = i * (d + 1)
  | 0 => by simp [units7]
  | i + 1 => by
    show (units7 d i ++ unit7 d).length = _
    rw [List.length_append, units7_length d i, unit7_length, Nat.add_mul, Nat.one_mul]
/-- The list of i + 1 numbers. -/
def list7 (d i : Nat) : List Nat := [91] ++ units7 d i ++ List.replicate d 55 ++ [93]
theorem list7_length (d i : Nat) : (list7 d i).length = (i + 1) * (d + 1) + 1 := by
  unfold list7
  simp only [List.length_append, List.length_cons, List.length_nil, List.length_replicate, units7_length]
  rw [Nat.add_mul]; omega
theorem list7_set (d i : Nat) : ([91] ++ units7 d (i + 1)).set ((i + 1) * (d + 1)) 93 = list7 d i := by
  show ([91] ++ (units7 d i ++ (List.replicate d 55 ++ [44]))).set _ 93 = _
  unfold list7
  rw [← List.append_assoc, ← List.append_assoc]
  rw [List.set_append_right _ _ (by simp [units7_length, Nat.add_mul]; omega)]
  have e : (i + 1) * (d + 1) - ([91] ++ units7 d i ++ List.replicate d 55).length = 0 := by simp [units7_length, Nat.add_mul]; omega
  rw [e]; rfl
theorem drive_sevens (m : Nat) : ∀ j, drive (Q 12 [false] m) (List.replicate j 55) = some (Q 12 [false] m)
  | 0 => rfl
  | j + 1 => by
    rw [List.replicate_succ]
    show (match delta (Q 12 [false] m) 55 with | none => none | some q' => drive q' (List.replicate j 55)) = _
    have h : delta (Q 12 [false] m) 55 = some (Q 12 [false] m) := rfl
    rw [h]
    exact drive_sevens m j
theorem drive_first (M m d : Nat) (hM : M = 0 ∨ M = 1) (hd : 1 ≤ d) : drive (Q M [false] m) (List.replicate d 55) = some (Q 12 [false] m) := by
  obtain ⟨j, rfl⟩ : ∃ j, d = j + 1 := ⟨d - 1, by omega⟩
  rw [List.replicate_succ]
  show (match delta (Q M [false] m) 55 with | none => none | some q' => drive q' (List.replicate j 55)) = _
  have h : delta (Q M [false] m) 55 = some (Q 12 [false] m) := by rcases hM with rfl | rfl <;> rfl
  rw [h]
  exact drive_sevens m j
theorem drive_units (d : Nat) (hd : 1 ≤ d) : ∀ i, ∃ M, (M = 0 ∨ M = 1) ∧ drive start ([91] ++ units7 d i) = some (Q M [false] 1)
  | 0 => ⟨1, Or.inr rfl, rfl⟩
  | i + 1 => by
    obtain ⟨M, hM, h⟩ := drive_units d hd i
    refine ⟨0, Or.inl rfl, ?_⟩
    show drive start ([91] ++ (units7 d i ++ (List.replicate d 55 ++ [44]))) = _
    rw [← List.append_assoc, ← List.append_assoc]
    exact drive_app (drive_app h (drive_first M 1 d hM hd)) (drive_one rfl)
theorem list7_text (d i : Nat) (hd : 1 ≤ d) : Text (list7 d i) 4096 := by
  obtain ⟨M, hM, h⟩ := drive_units d hd i
  have h2 : drive start (list7 d i) = some (Q 5 [] 1) := drive_app (drive_app h (drive_first M 1 d hM hd)) (drive_one rfl)
  have h3 := drive_to_goA h2 0
  unfold Text
  rw [h3]
  exact ⟨by rw [Nat.zero_add], rfl, by show 1 ≤ 4096; omega⟩
theorem mk_sevens : ∀ (j p : Nat), mkGo 0 (List.replicate j 55) p = [] ∧ mrun 0 (List.replicate j 55) = 0
  | 0, p => ⟨rfl, rfl⟩
  | j + 1, p => by
    obtain ⟨h1, h2⟩ := mk_sevens j (p + 1)
    rw [List.replicate_succ]
    exact ⟨h1, h2⟩
theorem mk_units (d : Nat) : ∀ i, mkGo 0 ([91] ++ units7 d i) 0 = (0, 91) :: (List.range i).map (fun j => ((j + 1) * (d + 1), 44)) ∧ mrun 0 ([91] ++ units7 d i) = 0
  | 0 => ⟨rfl, rfl⟩
  | i + 1 => by
    obtain ⟨h1, h2⟩ := mk_units d i
    have e : [91] ++ units7 d (i + 1) = [91] ++ units7 d i ++ List.replicate d 55 ++ [44] := by
      show [91] ++ (units7 d i ++ (List.replicate d 55 ++ [44])) = _
      rw [← List.append_assoc, ← List.append_assoc]
    have hr := mk_sevens d (0 + ([91] ++ units7 d i).length)
    rw [e]
    constructor
    · rw [mkGo_append, mkGo_append, h2, h1, hr.1, mrun_append, h2, hr.2, mkGo_one rfl, List.append_nil, List.range_succ, List.map_append, List.cons_append]
      congr 2
      simp [units7_length, Nat.add_mul]; omega
    · rw [mrun_append, mrun_append, h2, hr.2]; rfl
theorem list7_mks (d i : Nat) : mks (list7 d i) = (0, 91) :: ((List.range i).map (fun j => ((j + 1) * (d + 1), 44)) ++ [((i + 1) * (d + 1), 93)]) := by
  obtain ⟨h1, h2⟩ := mk_units d i
  have hr := mk_sevens d (0 + ([91] ++ units7 d i).length)
  unfold mks list7
  rw [mkGo_append, mkGo_append, h2, h1, hr.1, mrun_append, h2, hr.2, mkGo_one rfl, List.append_nil, List.cons_append]
  congr 3
  simp [units7_length, Nat.add_mul]; omega
theorem list7_places (d i : Nat) : places (list7 d i) = (List.range (i + 2)).map (· * (d + 1)) := by
  unfold places
  rw [list7_mks, List.range_succ, List.range_succ_eq_map]
  simp [Function.comp_def]
theorem list7_count (d i : Nat) : (places (list7 d i)).length = i + 2 := by rw [list7_places]; simp
theorem list7_at (d i j : Nat) (h : j < i + 2) : (places (list7 d i))[j]? = some (j * (d + 1)) := by
  rw [list7_places, List.getElem?_map, List.getElem?_range h]; rfl
end Go.Proofs.YtacllonekidocaaGreatDoor.L
