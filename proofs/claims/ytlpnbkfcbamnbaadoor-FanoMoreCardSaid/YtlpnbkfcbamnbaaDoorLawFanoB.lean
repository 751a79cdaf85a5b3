/- Walks: the reference's width; few; awake of chapter 05. -/
import Derived.Test.YtlpnbkfcbamnbaaDoorLawFano
set_option linter.unusedVariables false
set_option linter.unusedSimpArgs false
set_option maxRecDepth 100000
namespace Go.Proofs.YtlpnbkfcbamnbaaDoor
open Go.RowKit Go.Shelf L

theorem L.need_half (q : Nat) (h : 2 ≤ q) (hq : q < 18446744073709551616) : need q = need (q / 2) + 1 := by
  have h1 := need_spec q hq
  have h2 := need_spec (q / 2) (by omega)
  have h3 : need (q / 2) ≠ 0 := fun e => by rw [e] at h2; have := h2.1; simp at this; omega
  have h4 := h2.2.1 h3
  obtain ⟨k, hk⟩ : ∃ k, need (q / 2) = k + 1 := ⟨need (q / 2) - 1, by omega⟩
  refine need_unique (x := q) h1.1 h1.2.1 ?_ (fun _ => ?_)
  · have := h2.1
    rw [Nat.pow_succ]; omega
  · rw [Nat.add_sub_cancel, hk, Nat.pow_succ]
    rw [hk, Nat.add_sub_cancel] at h4
    omega
theorem L.need_one : need 1 = 1 := need_unique (x := 1) (need_spec 1 (by decide)).1 (need_spec 1 (by decide)).2.1 (by decide) (by decide)

set_option maxHeartbeats 1000000 in
theorem refWidth_any (n : Nat) (B : Int) (w : World) (hn : n ≤ 16777216) (hB : B ≤ 9223372036854775807) :
    Calls Tryd.prog 63 #[.int .i64 (n : Nat), .int .i64 B] w fun e w' => e = .returned (.int .i64 (wd n B.toNat : Nat)) ∧ w = w' := by
  rcases Nat.eq_zero_or_pos n with h0 | h0
  · have g0 : ((n : Int) == 0) = true := by rw [beq_iff_eq]; omega
    have HW := hid (show wd n B.toNat = 0 by unfold wd; rw [if_pos (Or.inl h0)])
    clear h0
    go_enter Tryd.func63, Tryd.ntmps63
    go_wp2_with fail
    go_ret
    exact ⟨by rw [HW.out]; rfl, rfl⟩
  · have g0 : ((n : Int) == 0) = false := by rw [beq_eq_false_iff_ne]; omega
    have hnw : IntKind.i64.wrap (2 * (n : Int)) = 2 * (n : Int) := by rw [IntKind.wrap_i64]; omega
    by_cases h2 : B < 2 * (n : Int)
    · have g1 : decide (B < 2 * (n : Int)) = true := decide_eq_true h2
      have HW := hid (show wd n B.toNat = 0 by unfold wd; rw [if_pos (Or.inr (by omega))])
      clear h2
      go_enter Tryd.func63, Tryd.ntmps63
      go_wp2_with fail
      go_ret
      exact ⟨by rw [HW.out]; rfl, rfl⟩
    · have g1 : decide (B < 2 * (n : Int)) = false := decide_eq_false h2
      obtain ⟨b, rfl⟩ := Int.eq_ofNat_of_zero_le (show 0 ≤ B by omega)
      have HW := hid (show wd n b = need (b / n) - 1 by unfold wd; rw [if_neg (by omega)])
      have hq2 : 2 ≤ b / n := (Nat.le_div_iff_mul_le h0).2 (by omega)
      have hqB : b / n ≤ b := Nat.div_le_self _ _
      obtain ⟨q0, hq⟩ : ∃ q, q = b / n := ⟨_, rfl⟩
      have hqI : (b : Int) / (n : Int) = (q0 : Int) := by rw [hq]; simp
      have hqT : (b : Int).tdiv (n : Int) = (q0 : Int) := by rw [Int.tdiv_eq_ediv_of_nonneg (by omega)]; exact hqI
      rw [← hq] at HW hq2 hqB
      have hqW : IntKind.i64.wrap (q0 : Int) = (q0 : Int) := by rw [IntKind.wrap_i64]; omega
      have hnp := (need_spec q0 (by omega)).2.2
      clear hq h2
      go_enter Tryd.func63, Tryd.ntmps63
      go_wp2_with fail
      go_loop [5, 6] (fun v u => ∃ (a q : Nat), v = .int .i64 (a : Nat) ∧ u = .int .i64 (q : Nat) ∧ 1 ≤ q ∧ q ≤ q0 ∧ need q + a = need q0) (fun _ u => (intOf u).toNat)
      case atStart => exact ⟨0, q0, rfl, rfl, by omega, Nat.le_refl _, rfl⟩
      case round =>
        obtain ⟨a, q, rfl, rfl, h1, hqq, hna⟩ := hrel
        rcases Nat.lt_or_ge 1 q with h | h
        · have d1 : decide ((q : Int) > 1) = true := decide_eq_true (by omega)
          have hd : (q : Int) / 2 = ((q / 2 : Nat) : Int) := by omega
          have ht : (q : Int).tdiv 2 = ((q / 2 : Nat) : Int) := by rw [Int.tdiv_eq_ediv_of_nonneg (by omega)]; exact hd
          have hdw : IntKind.i64.wrap ((q / 2 : Nat) : Int) = ((q / 2 : Nat) : Int) := by rw [IntKind.wrap_i64]; omega
          have haw : IntKind.i64.wrap ((a : Int) + 1) = (a : Int) + 1 := by rw [IntKind.wrap_i64]; omega
          have hr : need (q / 2) + (a + 1) = need q0 := by have := L.need_half q (by omega) (by omega); omega
          have hb1 : 1 ≤ q / 2 := by omega
          have hb2 : q / 2 < q := by omega
          generalize q / 2 = r at *
          go_wp2_with fail
          go_round
          case rel => exact ⟨a + 1, r, by go_num, by first | rfl | go_num, hb1, by omega, hr⟩
          case measure => simp [intOf]; omega
        · obtain rfl : q = 1 := by omega
          rw [L.need_one] at hna
          have ha : a = need q0 - 1 := by omega
          have HA := hid ha
          clear ha hna h
          go_wp2_with fail
          go_ret
          exact ⟨by first | (rw [HW.out, ← HA.out]; rfl) | (rw [Int.toNat_natCast, HW.out, ← HA.out]; rfl), rfl⟩

/-- Not too many bits, as the laws ask. -/
def L.fewB (n : Nat) (B : Int) : Bool := decide (n ≤ 100) && (decide (B < 4096) || (decide (0 < n) && decide (B.toNat / 2 ^ wd n B.toNat < 4096)))
theorem L.fewB_few {l : List Nat} {b : Nat} (h : fewB l.length (b : Nat) = true) (hr : RightN l b) : Few l b := by
  unfold fewB at h
  simp only [Bool.and_eq_true, Bool.or_eq_true, decide_eq_true_eq, Int.toNat_natCast] at h
  refine ⟨by omega, ?_⟩
  rcases h.2 with h2 | h2
  · exact Nat.le_trans (Nat.div_le_self _ _) (by omega)
  · have := Nat.div_le_div_right (c := 2 ^ wd l.length b) (show b - 1 ≤ b by omega)
    omega
theorem L.wd_le64 (n B : Nat) (hB : B < 9223372036854775808) : wd n B ≤ 63 := by
  unfold wd
  split
  · omega
  · have := (need_spec (B / n) (Nat.lt_of_le_of_lt (Nat.div_le_self _ _) (by omega))).2.2
    omega

set_option maxHeartbeats 2000000 in
theorem few_any (A : Option Addr) (c n : Nat) (B : Int) (w : World) (hn : n ≤ 1000000 ∨ 100 < n) (hB : B ≤ 9223372036854775807) :
    Calls Tryd.prog 17 #[.slice A n c, .int .i64 B] w fun e w' => e = .returned (.bool (fewB n B)) ∧ w = w' := by
  by_cases h1 : n ≤ 100
  · have d1 : decide ((n : Int) ≤ 100) = true := decide_eq_true (by omega)
    by_cases h2 : B < 4096
    · have d2 : decide (B < 4096) = true := decide_eq_true h2
      have HF := hid (show fewB n B = true by unfold fewB; rw [decide_eq_true h1, d2]; rfl)
      go_enter Tryd.func17, Tryd.ntmps17
      go_wp2_with fail
      go_ret
      exact ⟨by rw [HF.out]; rfl, rfl⟩
    · have d2 : decide (B < 4096) = false := decide_eq_false h2
      rcases Nat.eq_zero_or_pos n with h3 | h3
      · have d3 : decide ((n : Int) > 0) = false := decide_eq_false (by omega)
        have d3N : ¬ 0 < n := by omega
        have HF := hid (show fewB n B = false by unfold fewB; rw [decide_eq_true h1, d2, decide_eq_false d3N]; rfl)
        clear h3
        go_enter Tryd.func17, Tryd.ntmps17
        go_wp2_with fail
        go_ret
        exact ⟨by rw [HF.out]; rfl, rfl⟩
      · have d3 : decide ((n : Int) > 0) = true := decide_eq_true (by omega)
        obtain ⟨b, rfl⟩ := Int.eq_ofNat_of_zero_le (show 0 ≤ B by omega)
        have HF := hid (show fewB n (b : Nat) = decide (b / 2 ^ wd n b < 4096) by unfold fewB; rw [decide_eq_true h1, d2, decide_eq_true h3, Int.toNat_natCast]; simp)
        have HW := hid (fun W => refWidth_any n (b : Nat) W (by omega) hB)
        rw [show ((b : Nat) : Int).toNat = b from Int.toNat_natCast b] at HW
        have hw63 := wd_le64 n b (by omega)
        generalize wd n b = W at *
        obtain ⟨r, hr⟩ : ∃ r, r = b / 2 ^ W := ⟨_, rfl⟩
        have hrI : (b : Int) / 2 ^ W = (r : Int) := by rw [hr]; norm_cast
        rw [← hr] at HF
        clear hr
        have hm64 : min W 64 = W := by omega
        have hW0 : (0 : Int) ≤ (W : Int) := by omega
        have hd : decide ((r : Int) < 4096) = decide (r < 4096) := by rw [Bool.eq_iff_iff]; simp; omega
        go_enter Tryd.func17, Tryd.ntmps17
        go_wp2_with fail
        (with_reducible refine (HW.out _).mono ?_)
        rintro e w' ⟨rfl, rfl⟩
        go_wp2_with fail
        go_ret
        exact ⟨by rw [HF.out]; first | rfl | simp [hd], rfl⟩
  · have d1 : decide ((n : Int) ≤ 100) = false := decide_eq_false (by omega)
    have HF := hid (show fewB n B = false by unfold fewB; rw [decide_eq_false h1]; rfl)
    go_enter Tryd.func17, Tryd.ntmps17
    go_wp2_with fail
    go_ret
    exact ⟨by rw [HF.out]; rfl, rfl⟩

theorem lst_four {w : World} {g : Nat} {T : TypeId} {x y z u : Value} (h : BlkIs w g T #[x, y, z, u]) : Lst w (some ⟨g, 0, none⟩) [x, y, z, u] := fun i u hi => ⟨_, rfl, by
  rw [add_zero_, h.cell i]; simpa using hi⟩

set_option maxHeartbeats 1000000 in
theorem awake5 (w : World) (hT : Tab w) : Calls Tryd.prog 14 #[] w fun e w' => e = .returned (.bool true) ∧ Below w.heap.size w w' := by
  have hl : Lst (w.alloc (.cells #[.int .i64 1, .int .i64 4, .int .i64 4, .int .i64 9] 3)) (some ⟨w.heap.size, 0, none⟩) (natCells [1, 4, 4, 9]) := lst_four (BlkIs.new _ _ _)
  have hB0 : Below w.heap.size w (w.alloc (.cells #[.int .i64 1, .int .i64 4, .int .i64 4, .int .i64 9] 3)) := (Below.refl _ _).alloc (Nat.le_refl _) _
  have hr : RightN [1, 4, 4, 9] 10 := ⟨by omega, by unfold Ris; decide, by decide⟩
  have hwd0 : wd 4 10 = 1 := by unfold wd; decide
  have hf : Few [1, 4, 4, 9] 10 := ⟨by decide, Nat.le_trans (Nat.div_le_self _ _) (by decide)⟩
  have HM := hid (make_ok (some ⟨w.heap.size, 0, none⟩) 4 [1, 4, 4, 9] 10 _ hl hr hf)
  have hz0 := hB0.size
  have HC := hid (show clz [1, 4, 4, 9] 4 = 1 by decide)
  clear hl
  go_enter Tryd.func14, Tryd.ntmps14
  go_wp2_with fail
  refine HM.out.mono ?_
  rintro e w1 ⟨s, rfl, hs, hB1, _⟩
  have hBa := hB0.trans (hB1.mono hz0)
  have hza := hBa.size
  go_wp2_with fail
  refine (seqLen_any s _ 10 _ hs).mono ?_
  rintro e w2 ⟨rfl, rfl⟩
  go_wp2_with fail
  refine (less_any s _ 10 4 _ hs (hT.below hBa) hr hf).mono ?_
  rw [HC.out]
  rintro e w3 ⟨rfl, hB3⟩
  go_wp2_with fail
  go_ret
  exact ⟨rfl, hBa.trans (hB3.mono hza)⟩

end Go.Proofs.YtlpnbkfcbamnbaaDoor
