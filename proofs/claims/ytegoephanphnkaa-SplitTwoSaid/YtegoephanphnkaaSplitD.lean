/- Walks: a file's records: the errors; a record's text; the laws' first question. -/
import Derived.Test.YtegoephanphnkaaSplitC
set_option linter.unusedVariables false
set_option linter.unusedSimpArgs false
set_option maxRecDepth 100000
namespace Go.Proofs.Ytegoephanphnkaa
open Go.RowKit Go.Shelf L

theorem records_arg (s : ByteArray) (deep : Int) (w : World) (h : deep < 1 ∨ 4096 < deep) :
    Calls Try.prog 18 #[.string s, .int .i64 deep] w fun e w' => e = .returned (.tuple #[.slice none 0 0, .int .i64 1]) ∧ w = w' := by
  by_cases h1 : deep < 1
  · have d1 : decide (deep < 1) = true := decide_eq_true h1
    go_enter Try.func18, Try.ntmps18
    go_wp2_with fail
    go_ret2
    exact ⟨rfl, rfl⟩
  · have d1 : decide (deep < 1) = false := decide_eq_false h1
    have h2 : 4096 < deep := by omega
    have d2 : decide (deep > 4096) = true := decide_eq_true h2
    go_enter Try.func18, Try.ntmps18
    go_wp2_with fail
    go_ret2
    exact ⟨rfl, rfl⟩

theorem spans_two : spans (nb { data := #[49, 10] }) = [(0, 1)] := by decide +kernel
theorem recs_two : recs (nb { data := #[49, 10] }) 1 = [⟨0, 1, 1, 0⟩] := by
  unfold recs
  rw [spans_two]
  have h : verd (sub_ (nb { data := #[49, 10] }) 0 1) 1 = (1, 0) := by decide +kernel
  simp only [List.map_cons, List.map_nil, recN, h]

set_option maxHeartbeats 1000000 in
theorem awake24 (w : World) : Calls Try.prog 17 #[] w fun e w' => e = .returned (.bool true) ∧ Below w.heap.size w w' := by
  have HR := hid (records_all { data := #[49, 10] } 1 w (by decide) (by omega) (by omega) (by rw [spans_two]; simp))
  go_enter Try.func17, Try.ntmps17
  go_wp2_with fail
  refine HR.out.mono ?_
  rw [recs_two]
  rintro e w1 ⟨A, c, rfl, hown, hB1⟩
  obtain ⟨g, o, rfl, k0, k1, k2, k3⟩ := rec_cells (i := 0) (own_lst2 hown (by omega)) (by simp)
  simp only [Nat.zero_mul, Nat.add_zero, List.getElem_cons_zero] at k0 k1 k2 k3
  go_wp2_with fail
  go_ret
  exact ⟨rfl, hB1⟩

/-- Which bytes a place tells. -/
def lo24 (n : Nat) (a : Int) : Nat := (min (max a 0) (n : Int)).toNat
def hi24 (n : Nat) (a b : Int) : Nat := (min (max b (lo24 n a : Int)) (n : Int)).toNat
theorem text24_any (s : ByteArray) (a b : Int) (v p : Value) (hv : v.oneCell' = true) (hp : p.oneCell' = true) (w : World) (hs : s.size ≤ 9223372036854775807) :
    Calls Try.prog 22 #[.string s, .agg #[.int .i64 a, .int .i64 b, v, p]] w fun e w' => e = .returned (.string (s.extract (lo24 s.size a) (hi24 s.size a b))) ∧ Below w.heap.size w w' := by
  obtain ⟨x, hx⟩ : ∃ x, x = lo24 s.size a := ⟨_, rfl⟩
  obtain ⟨y, hy⟩ : ∃ y, y = hi24 s.size a b := ⟨_, rfl⟩
  have hxI : min (max a 0) (s.size : Int) = (x : Int) := by rw [hx]; unfold lo24; omega
  have hyI : min (max b (x : Int)) (s.size : Int) = (y : Int) := by rw [hy]; unfold hi24; rw [← hx]; omega
  have hxs : (x : Int) ≤ (s.size : Int) := by omega
  have hxy : (x : Int) ≤ (y : Int) := by omega
  have hys : (y : Int) ≤ (s.size : Int) := by omega
  have hx0 : (0 : Int) ≤ (x : Int) := by omega
  rw [← hx, ← hy]
  clear hx hy
  go_enter Try.func22, Try.ntmps22
  go_wp2_with fail
  go_ret
  exact ⟨rfl, (Below.refl _ _).alloc (Nat.le_refl _) _⟩

end Go.Proofs.Ytegoephanphnkaa
