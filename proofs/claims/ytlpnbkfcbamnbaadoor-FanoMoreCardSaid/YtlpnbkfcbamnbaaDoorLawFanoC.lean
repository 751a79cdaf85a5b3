/- Walks: the law FanoMakes returns true. -/
import Derived.Test.YtlpnbkfcbamnbaaDoorLawFanoB
set_option linter.unusedVariables false
set_option linter.unusedSimpArgs false
set_option maxRecDepth 100000
namespace Go.Proofs.YtlpnbkfcbamnbaaDoor
open Go.RowKit Go.Shelf L

/-- Right or not, as one number. -/
theorem refRight_is (A : Option Addr) (c : Nat) (zs : List Int) (B : Int) (w : World) (hl : Lst w A (ints zs)) (hn : zs.length ≤ 1000000) (ok : Bool) (h : ok = true ↔ RightZ zs B) :
    Calls Tryd.prog 15 #[.slice A zs.length c, .int .i64 B] w fun e w' => e = .returned (.bool ok) ∧ Below w.heap.size w w' := by
  refine (refRight_any A c zs B w hl hn).mono ?_
  rintro e w' ⟨ok', m, rfl, rfl, h'⟩
  have : ok' = ok := by rw [Bool.eq_iff_iff, h, h']
  subst this
  exact ⟨rfl, below_of_drewN (Below.refl _ (w.drewN m))⟩

set_option maxHeartbeats 2000000 in
theorem lawFanoMakes_long (A : Option Addr) (n c : Nat) (B : Int) (w : World) (hn : 100 < n) (hT : Tab w) :
    Calls Tryd.prog 3 #[.slice A n c, .int .i64 B] w fun e w' => e = .returned (.bool true) ∧ Below w.heap.size w w' := by
  have h1 : decide ((n : Int) > 100) = true := decide_eq_true (by omega)
  go_enter Tryd.func3, Tryd.ntmps3
  go_wp2_with fail
  refine (awake5 _ hT).mono ?_
  rintro e w1 ⟨rfl, hB1⟩
  go_wp2_with fail
  refine (awake5 _ (hT.below hB1)).mono ?_
  rintro e w2 ⟨rfl, hB2⟩
  go_wp2_with fail
  go_ret
  exact ⟨rfl, hB1.trans (hB2.mono hB1.size)⟩

set_option maxHeartbeats 2000000 in
theorem lawFanoMakes_wrong (A : Option Addr) (c : Nat) (zs : List Int) (B : Int) (w : World) (hl : Lst w A (ints zs)) (hn : zs.length ≤ 100) (hT : Tab w) (hr : ¬ RightZ zs B) :
    Calls Tryd.prog 3 #[.slice A zs.length c, .int .i64 B] w fun e w' => e = .returned (.bool true) ∧ Below w.heap.size w w' := by
  have h1 : decide ((zs.length : Int) > 100) = false := decide_eq_false (by omega)
  have HR := hid hr
  have hlen : ¬ (100 < zs.length) := by omega
  clear hr
  go_enter Tryd.func3, Tryd.ntmps3
  go_wp2_with fail
  refine (awake5 _ hT).mono ?_
  rintro e w1 ⟨rfl, hB1⟩
  have hz1 := hB1.size
  go_wp2_with fail
  refine (refRight_is A c zs B _ (hl.below hB1) (by omega) false ⟨fun h => (by cases h), fun h => absurd h HR.out⟩).mono ?_
  rintro e w2 ⟨rfl, hB2⟩
  have hBb := hB1.trans (hB2.mono hz1)
  go_wp2_with fail
  refine (make_err A c zs B _ (hl.below hBb) (by omega) HR.out).mono ?_
  rintro e w3 ⟨rfl, rfl⟩
  go_wp2_with fail
  go_ret
  exact ⟨rfl, hBb⟩

set_option maxHeartbeats 2000000 in
theorem lawFanoMakes_many (A : Option Addr) (c : Nat) (zs : List Int) (B : Int) (w : World) (hl : Lst w A (ints zs)) (hn : zs.length ≤ 100) (hB : B ≤ 9223372036854775807) (hT : Tab w) (hr : RightZ zs B) (hf : fewB zs.length B = false) :
    Calls Tryd.prog 3 #[.slice A zs.length c, .int .i64 B] w fun e w' => e = .returned (.bool true) ∧ Below w.heap.size w w' := by
  have h1 : decide ((zs.length : Int) > 100) = false := decide_eq_false (by omega)
  have HR := hid hr
  have hlen : ¬ (100 < zs.length) := by omega
  have HF := hid (fun W => few_any A c zs.length B W (by omega) hB)
  rw [hf] at HF
  clear hr hf
  go_enter Tryd.func3, Tryd.ntmps3
  go_wp2_with fail
  refine (awake5 _ hT).mono ?_
  rintro e w1 ⟨rfl, hB1⟩
  have hz1 := hB1.size
  go_wp2_with fail
  refine (refRight_is A c zs B _ (hl.below hB1) (by omega) true ⟨fun h => HR.out, fun _ => rfl⟩).mono ?_
  rintro e w2 ⟨rfl, hB2⟩
  have hBb := hB1.trans (hB2.mono hz1)
  go_wp2_with fail
  refine (HF.out _).mono ?_
  rintro e w3 ⟨rfl, rfl⟩
  go_wp2_with fail
  go_ret
  exact ⟨rfl, hBb⟩

set_option maxHeartbeats 4000000 in
theorem lawFanoMakes_true (A : Option Addr) (c : Nat) (l : List Nat) (B : Nat) (w : World) (hl : Lst w A (natCells l)) (hn : l.length ≤ 100) (hT : Tab w) (hr : RightN l B) (hf : fewB l.length (B : Nat) = true) :
    Calls Tryd.prog 3 #[.slice A l.length c, .int .i64 (B : Nat)] w fun e w' => e = .returned (.bool true) ∧ Below w.heap.size w w' := by
  have h1 : decide ((l.length : Int) > 100) = false := decide_eq_false (by omega)
  have hFew := fewB_few hf hr
  have hlen : ¬ (100 < l.length) := by omega
  have hB1 := hr.1
  have HF := hid (fun W => few_any A c l.length (B : Nat) W (by omega) (by omega))
  rw [hf] at HF
  clear hf
  have HRI := hid (show ∀ W, Lst W A (natCells l) → Calls Tryd.prog 15 #[.slice A l.length c, .int .i64 (B : Nat)] W fun e w' => e = .returned (.bool true) ∧ Below W.heap.size W w' from fun W hW => by
    have := refRight_is A c (l.map (fun x : Nat => (x : Int))) (B : Nat) W (by rw [ints_nat]; exact hW) (by rw [List.length_map]; omega) true ⟨fun _ => hr.z (by omega), fun _ => rfl⟩
    rwa [List.length_map] at this)
  have HM := hid (fun W hW => make_ok A c l B W hW hr hFew)
  go_enter Tryd.func3, Tryd.ntmps3
  go_wp2_with fail
  refine (awake5 _ hT).mono ?_
  rintro e w1 ⟨rfl, hB1⟩
  have hz1 := hB1.size
  go_wp2_with fail
  refine (HRI.out _ (hl.below hB1)).mono ?_
  rintro e w2 ⟨rfl, hB2⟩
  have hBb := hB1.trans (hB2.mono hz1)
  have hzb := hBb.size
  clear hB1 hB2
  go_wp2_with fail
  refine (HF.out _).mono ?_
  rintro e w3 ⟨rfl, rfl⟩
  go_wp2_with fail
  refine (HM.out _ (hl.below hBb)).mono ?_
  rintro e w4 ⟨s, rfl, hs, hB4, _⟩
  have hBc := hBb.trans (hB4.mono hzb)
  have hzc := hBc.size
  clear hBb hB4
  go_wp2_with fail
  refine (seqLen_any s l B _ hs).mono ?_
  rintro e w5 ⟨rfl, rfl⟩
  go_wp2_with fail
  refine (seqBound_any s l B _ hs).mono ?_
  rintro e w5 ⟨rfl, rfl⟩
  go_wp2_with fail
  go_loopw [9] (fun iv wr => ∃ z : Int, iv = .int .i64 z ∧ -1 ≤ z ∧ z ≤ (l.length : Int) + 1 ∧ Below w4.heap.size w4 wr) (fun iv _ => ((l.length : Int) + 1 - intOf iv).toNat)
  case atStart => exact ⟨-1, rfl, by omega, by omega, Below.refl _ _⟩
  case round =>
    obtain ⟨z, rfl, hz0, hz2, hB⟩ := hrel
    have hzr := hB.size
    have hzw : IntKind.i64.wrap (z + 1) = z + 1 := by rw [IntKind.wrap_i64]; omega
    by_cases hz : z ≤ (l.length : Int)
    · have g0 : decide (z ≤ (l.length : Int)) = true := decide_eq_true hz
      by_cases h : z < 0
      · have g1 : decide (z < 0) = true := decide_eq_true h
        have HG := hid (sGet_out s l B z _ (hs.below hB) (Or.inl h))
        go_wp2_with fail
        refine HG.out.mono ?_
        rintro e w6 ⟨rfl, rfl⟩
        go_wp2_with fail
        go_roundw
        case rel => exact ⟨z + 1, rfl, by omega, by omega, hB⟩
        case measure => simp [intOf]; omega
      · have g1 : decide (z < 0) = false := decide_eq_false h
        by_cases h2 : z = (l.length : Int)
        · have g2 : decide (z ≥ (l.length : Int)) = true := decide_eq_true (by omega)
          have HG := hid (sGet_out s l B z _ (hs.below hB) (Or.inr (by omega)))
          have H2 := hid h2
          have h2N : (l.length : Int) ≤ z := by omega
          clear h2 hz
          go_wp2_with fail
          refine HG.out.mono ?_
          rintro e w6 ⟨rfl, rfl⟩
          go_wp2_with fail
          go_roundw
          case rel => exact ⟨z + 1, rfl, by omega, by have := H2.out; omega, hB⟩
          case measure => have := H2.out; simp [intOf]; omega
        · have g2 : decide (z ≥ (l.length : Int)) = false := decide_eq_false (by omega)
          have g2N : ¬ ((l.length : Int) ≤ z) := by omega
          obtain ⟨j, rfl⟩ := Int.eq_ofNat_of_zero_le (show 0 ≤ z by omega)
          have hj : j < l.length := by omega
          have HG := hid (sGet_in s l B j _ (hs.below hB) ((hT.below hBc).below hB) hr hFew hj)
          obtain ⟨ab, ao, rfl, had, hcl⟩ := hl.lit (by rw [natCells_length]; omega)
          have hcell := fun W (hW : Below w.heap.size w W) => (hW.cell (p := ⟨ab, ao + j, none⟩) had).trans (hcl j (.int .i64 (l[j] : Nat)) (by unfold natCells; rw [List.getElem?_map, List.getElem?_eq_getElem hj]; rfl))
          have HC := hid hcell
          clear hcell hcl h2 hz
          generalize l[j] = x at *
          have hji : (j : Int) < (l.length : Int) := by omega
          have hj0 : (0 : Int) ≤ (j : Int) := by omega
          go_wp2_with fail
          refine HG.out.mono ?_
          rintro e w6 ⟨rfl, hB6⟩
          have hBd := hB.trans (hB6.mono hzr)
          have hcell := HC.out _ (hBc.trans (hBd.mono hzc))
          go_wp2_with fail
          first | go_quiet (fail) | skip
          go_wp2_with fail
          go_roundw
          case rel => exact ⟨(j : Int) + 1, by first | rfl | go_num, by omega, by omega, by first | exact hBd | exact ⟨hBd.os, hBd.tape, hBd.output, hBd.size, hBd.block⟩⟩
          case measure => simp [intOf]; omega
    · have g0 : decide (z ≤ (l.length : Int)) = false := decide_eq_false hz
      go_wp2_with fail
      go_ret
      exact ⟨rfl, hBc.trans (hB.mono hzc)⟩

theorem lawFanoMakes_any (A : Option Addr) (c : Nat) (zs : List Int) (B : Int) (w : World) (hl : Lst w A (ints zs)) (hB : B ≤ 9223372036854775807) (hT : Tab w) :
    Calls Tryd.prog 3 #[.slice A zs.length c, .int .i64 B] w fun e w' => e = .returned (.bool true) ∧ Below w.heap.size w w' := by
  rcases Nat.lt_or_ge 100 zs.length with h | h
  · exact lawFanoMakes_long A _ c B w h hT
  · by_cases hr : RightZ zs B
    · cases hf : fewB zs.length B with
      | false => exact lawFanoMakes_many A c zs B w hl h hB hT hr hf
      | true =>
        obtain ⟨l, b, rfl, rfl, hN, hlt⟩ := rightZ_nat hr
        rw [List.length_map] at hf h ⊢
        rw [ints_nat] at hl
        exact lawFanoMakes_true A c l b w hl h hT hN hf
    · exact lawFanoMakes_wrong A c zs B w hl h hT hr

end Go.Proofs.YtlpnbkfcbamnbaaDoor
