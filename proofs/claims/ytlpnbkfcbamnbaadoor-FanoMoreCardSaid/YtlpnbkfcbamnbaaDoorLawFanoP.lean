/- The texts LawFano, LawFanoB, LawFanoC, LawFanoD, LawFanoE, FanoM, in one. -/
import Derived.Test.YtlpnbkfcbamnbaaDoorFanoQ
import Derived.Lib.QuietBelow
/- Walks: the reference's right numbers and width; few; awake of chapter 05. -/

set_option linter.unusedVariables false
set_option linter.unusedSimpArgs false
set_option maxRecDepth 100000
namespace Go.Proofs.YtlpnbkfcbamnbaaDoor
open Go.RowKit Go.Shelf L

def L.pv (zs : List Int) (i : Nat) : Int := if i = 0 then 0 else zs[i - 1]?.getD 0
theorem L.okFrom_step (p B : Int) (zs : List Int) (i : Nat) (h : i < zs.length) : okFrom p B (zs.drop i) = (decide (p ≤ zs[i]) && decide (zs[i] < B) && okFrom zs[i] B (zs.drop (i + 1))) := by
  rw [List.drop_eq_getElem_cons h]; rfl
theorem L.pv_succ (zs : List Int) (i : Nat) (h : i < zs.length) : pv zs (i + 1) = zs[i] := by unfold pv; rw [if_neg (by omega), Nat.add_sub_cancel, List.getElem?_eq_getElem h]; rfl

set_option maxHeartbeats 4000000 in
theorem refRight_any (A : Option Addr) (c : Nat) (zs : List Int) (B : Int) (w : World) (hl : Lst w A (ints zs)) (hn : zs.length ≤ 1000000) :
    Calls Tryd.prog 15 #[.slice A zs.length c, .int .i64 B] w fun e w' => ∃ ok m, e = .returned (.bool ok) ∧ w' = w.drewN m ∧ (ok = true ↔ RightZ zs B) := by
  go_enter Tryd.func15, Tryd.ntmps15
  go_wp2_with fail
  go_loopw [5] (fun iv wr => ∃ (i m : Nat), iv = .int .i64 (i : Nat) ∧ wr = w.drewN m ∧ i ≤ zs.length ∧ okFrom 0 B zs = okFrom (pv zs i) B (zs.drop i) ∧ 0 ≤ pv zs i) (fun iv _ => zs.length - (intOf iv).toNat)
  case atStart => exact ⟨0, 0, rfl, rfl, by omega, rfl, Int.le_refl _⟩
  case round =>
    obtain ⟨i, m, rfl, rfl, hi, hok, hp0⟩ := hrel
    have HOK := hid hok
    clear hok
    rcases Nat.lt_or_ge i zs.length with hlt | hge
    · have hii : (i : Int) < (zs.length : Int) := by omega
      have hi0 : (0 : Int) ≤ (i : Int) := by omega
      have hiW := wrap_one i (by omega)
      obtain ⟨g, o, rfl, _, hc⟩ := hl.lit (by unfold ints; rw [List.length_map]; omega)
      have hcell := hc i (.int .i64 zs[i]) (by unfold ints; rw [List.getElem?_map, List.getElem?_eq_getElem hlt]; rfl)
      have HD := hid (okFrom_step (pv zs i) B zs i hlt)
      have HS := hid (pv_succ zs i hlt)
      have HP := hid hp0
      have HN := hid (show ¬ (pv zs i ≤ zs[i] ∧ zs[i] < B) → ¬ RightZ zs B from fun hh h => by
        have := h.2
        rw [HOK.out, HD.out] at this
        simp only [Bool.and_eq_true, decide_eq_true_eq] at this
        exact hh this.1)
      have HR := hid (show (pv zs i ≤ zs[i] ∧ zs[i] < B) → okFrom 0 B zs = okFrom (pv zs (i + 1)) B (zs.drop (i + 1)) ∧ 0 ≤ pv zs (i + 1) from fun hh => by
        rw [HS.out, HOK.out, HD.out, decide_eq_true hh.1, decide_eq_true hh.2]
        exact ⟨rfl, by have := HP.out; omega⟩)
      clear HOK HD HS
      by_cases h0 : zs[i] < 0
      · have HF := hid (HN.out (by have := HP.out; omega))
        clear HN HR HP hp0 hc
        generalize zs[i] = x at *
        have k0 : decide (x < 0) = true := decide_eq_true h0
        go_wp2_with fail
        go_quiet (fail)
        go_wp2_with fail
        go_ret
        first | exact ⟨false, _, rfl, rfl, (fun h => by cases h), (fun h => absurd h HF.out)⟩ | exact Or.inl ⟨rfl, ⟨_, rfl⟩, HF.out⟩ | exact ⟨false, m + nq, rfl, (by first | rfl | simp [World.drewN_drewN]), (fun h => by cases h), (fun h => absurd h HF.out)⟩
      · have k0 : decide (zs[i] < 0) = false := decide_eq_false h0
        by_cases h1 : B ≤ zs[i]
        · have HF := hid (HN.out (by omega))
          clear HN HR HP hp0 hc
          generalize zs[i] = x at *
          have k1 : decide (x ≥ B) = true := decide_eq_true h1
          go_wp2_with fail
          go_quiet (fail)
          go_wp2_with fail
          go_ret
          first | exact ⟨false, _, rfl, rfl, (fun h => by cases h), (fun h => absurd h HF.out)⟩ | exact Or.inl ⟨rfl, ⟨_, rfl⟩, HF.out⟩ | exact ⟨false, m + nq, rfl, (by first | rfl | simp [World.drewN_drewN]), (fun h => by cases h), (fun h => absurd h HF.out)⟩
        · have k1 : decide (zs[i] ≥ B) = false := decide_eq_false h1
          by_cases hz : i = 0
          · have k2 : decide ((i : Int) > 0) = false := decide_eq_false (by omega)
            have HF := hid (HR.out ⟨by unfold pv; rw [if_pos hz]; omega, by omega⟩)
            clear HN HR HP hp0 hc
            generalize zs[i] = x at *
            have k2N : ¬ 0 < i := by omega
            have k2J : ¬ ((i : Int) > 0) := by omega
            have k2K : (i : Int) ≤ 0 := by omega
            clear hz
            go_wp2_with fail
            go_quiet (fail)
            go_wp2_with fail
            go_roundw
            case rel => exact ⟨i + 1, m + nq, by go_num, by simp, by omega, HF.out⟩
            case measure => simp [intOf]; omega
          · have k2 : decide ((i : Int) > 0) = true := decide_eq_true (by omega)
            have hj : i - 1 < zs.length := by omega
            have hcell2 := hc (i - 1) (.int .i64 zs[i - 1]) (by unfold ints; rw [List.getElem?_map, List.getElem?_eq_getElem hj]; rfl)
            have hpv : pv zs i = zs[i - 1] := by unfold pv; rw [if_neg hz, List.getElem?_eq_getElem hj]; rfl
            rw [hpv] at HN HR
            clear hpv
            generalize hjj : i - 1 = j at *
            have hjI : (i : Int) - 1 = (j : Int) := by omega
            have hj0 : (0 : Int) ≤ (j : Int) := by omega
            have hjlt : (j : Int) < (zs.length : Int) := by omega
            have hjlt2 : j < zs.length := by omega
            have k2N : 0 < i := by omega
            clear hjj HP hp0 hc
            by_cases h2 : zs[i] < zs[j]
            · have HF := hid (HN.out (by omega))
              clear HN HR
              have k3 : decide (zs[i] < zs[j]) = true := decide_eq_true h2
              generalize zs[i] = x at *
              generalize zs[j] = y at *
              go_wp2_with fail
              go_quiet (fail)
              go_wp2_with fail
              go_ret
              first | exact ⟨false, _, rfl, rfl, (fun h => by cases h), (fun h => absurd h HF.out)⟩ | exact Or.inl ⟨rfl, ⟨_, rfl⟩, HF.out⟩ | exact ⟨false, m + nq, rfl, (by first | rfl | simp [World.drewN_drewN]), (fun h => by cases h), (fun h => absurd h HF.out)⟩
            · have HF := hid (HR.out (by omega))
              clear HN HR
              have k3 : decide (zs[i] < zs[j]) = false := decide_eq_false h2
              generalize zs[i] = x at *
              generalize zs[j] = y at *
              go_wp2_with fail
              go_quiet (fail)
              go_wp2_with fail
              go_roundw
              case rel => exact ⟨i + 1, m + nq, by go_num, by simp, by omega, HF.out⟩
              case measure => simp [intOf]; omega
    · obtain rfl : i = zs.length := by omega
      have HT := hid (show okFrom 0 B zs = true by rw [HOK.out, List.drop_length]; rfl)
      clear HOK hp0
      have k3 : decide ((zs.length : Int) < 16777216) = true := by apply decide_eq_true; omega
      have k3N : zs.length < 16777216 := by omega
      by_cases h1 : 1 ≤ B
      · have k1 : decide (B ≥ 1) = true := decide_eq_true h1
        by_cases h2 : B ≤ 1099511627776
        · have k2 : decide (B ≤ 1099511627776) = true := decide_eq_true h2
          have HN := hid (show RightZ zs B from ⟨⟨h1, h2, k3N⟩, HT.out⟩)
          go_wp2_with fail
          go_ret
          first | exact ⟨true, _, rfl, rfl, (fun _ => HN.out), (fun _ => rfl)⟩ | exact Or.inr ⟨rfl, ⟨_, rfl⟩, HN.out⟩
        · have k2 : decide (B ≤ 1099511627776) = false := decide_eq_false h2
          have HF := hid (show ¬ RightZ zs B from fun h => h2 h.1.2.1)
          go_wp2_with fail
          go_ret
          first | exact ⟨false, _, rfl, rfl, (fun h => by cases h), (fun h => absurd h HF.out)⟩ | exact Or.inl ⟨rfl, ⟨_, rfl⟩, HF.out⟩ | exact ⟨false, m + nq, rfl, (by first | rfl | simp [World.drewN_drewN]), (fun h => by cases h), (fun h => absurd h HF.out)⟩
      · have k1 : decide (B ≥ 1) = false := decide_eq_false h1
        have HF := hid (show ¬ RightZ zs B from fun h => h1 h.1.1)
        go_wp2_with fail
        go_ret
        first | exact ⟨false, _, rfl, rfl, (fun h => by cases h), (fun h => absurd h HF.out)⟩ | exact Or.inl ⟨rfl, ⟨_, rfl⟩, HF.out⟩ | exact ⟨false, m + nq, rfl, (by first | rfl | simp [World.drewN_drewN]), (fun h => by cases h), (fun h => absurd h HF.out)⟩

end Go.Proofs.YtlpnbkfcbamnbaaDoor

/- Walks: the reference's width; few; awake of chapter 05. -/

set_option linter.unusedVariables false
set_option linter.unusedSimpArgs false
set_option maxRecDepth 100000
namespace Go.Proofs.YtlpnbkfcbamnbaaDoor
open Go.RowKit Go.Shelf L

theorem L.need_half (q : Nat) (h : 2 ≤ q) (hq : q < 18446744073709551616) : need q = need (q / 2) + 1 := by
  have h1 := need_spec q hq
  have h2 := need_spec (q / 2) (by omega)
  have h3 : need (q / 2) ≠ 0 := fun e => by rw [e] at h2; have := h2.1; simp at this; omega
  have h4 := h2.2.1 h3
  obtain ⟨k, hk⟩ : ∃ k, need (q / 2) = k + 1 := ⟨need (q / 2) - 1, by omega⟩
  refine need_unique (x := q) h1.1 h1.2.1 ?_ (fun _ => ?_)
  · have := h2.1
    rw [Nat.pow_succ]; omega
  · rw [Nat.add_sub_cancel, hk, Nat.pow_succ]
    rw [hk, Nat.add_sub_cancel] at h4
    omega
theorem L.need_one : need 1 = 1 := need_unique (x := 1) (need_spec 1 (by decide)).1 (need_spec 1 (by decide)).2.1 (by decide) (by decide)

set_option maxHeartbeats 1000000 in
theorem refWidth_any (n : Nat) (B : Int) (w : World) (hn : n ≤ 16777216) (hB : B ≤ 9223372036854775807) :
    Calls Tryd.prog 63 #[.int .i64 (n : Nat), .int .i64 B] w fun e w' => e = .returned (.int .i64 (wd n B.toNat : Nat)) ∧ w = w' := by
  rcases Nat.eq_zero_or_pos n with h0 | h0
  · have g0 : ((n : Int) == 0) = true := by rw [beq_iff_eq]; omega
    have HW := hid (show wd n B.toNat = 0 by unfold wd; rw [if_pos (Or.inl h0)])
    clear h0
    go_enter Tryd.func63, Tryd.ntmps63
    go_wp2_with fail
    go_ret
    exact ⟨by rw [HW.out]; rfl, rfl⟩
  · have g0 : ((n : Int) == 0) = false := by rw [beq_eq_false_iff_ne]; omega
    have hnw : IntKind.i64.wrap (2 * (n : Int)) = 2 * (n : Int) := by rw [IntKind.wrap_i64]; omega
    by_cases h2 : B < 2 * (n : Int)
    · have g1 : decide (B < 2 * (n : Int)) = true := decide_eq_true h2
      have HW := hid (show wd n B.toNat = 0 by unfold wd; rw [if_pos (Or.inr (by omega))])
      clear h2
      go_enter Tryd.func63, Tryd.ntmps63
      go_wp2_with fail
      go_ret
      exact ⟨by rw [HW.out]; rfl, rfl⟩
    · have g1 : decide (B < 2 * (n : Int)) = false := decide_eq_false h2
      obtain ⟨b, rfl⟩ := Int.eq_ofNat_of_zero_le (show 0 ≤ B by omega)
      have HW := hid (show wd n b = need (b / n) - 1 by unfold wd; rw [if_neg (by omega)])
      have hq2 : 2 ≤ b / n := (Nat.le_div_iff_mul_le h0).2 (by omega)
      have hqB : b / n ≤ b := Nat.div_le_self _ _
      obtain ⟨q0, hq⟩ : ∃ q, q = b / n := ⟨_, rfl⟩
      have hqI : (b : Int) / (n : Int) = (q0 : Int) := by rw [hq]; simp
      have hqT : (b : Int).tdiv (n : Int) = (q0 : Int) := by rw [Int.tdiv_eq_ediv_of_nonneg (by omega)]; exact hqI
      rw [← hq] at HW hq2 hqB
      have hqW : IntKind.i64.wrap (q0 : Int) = (q0 : Int) := by rw [IntKind.wrap_i64]; omega
      have hnp := (need_spec q0 (by omega)).2.2
      clear hq h2
      go_enter Tryd.func63, Tryd.ntmps63
      go_wp2_with fail
      go_loop [5, 6] (fun v u => ∃ (a q : Nat), v = .int .i64 (a : Nat) ∧ u = .int .i64 (q : Nat) ∧ 1 ≤ q ∧ q ≤ q0 ∧ need q + a = need q0) (fun _ u => (intOf u).toNat)
      case atStart => exact ⟨0, q0, rfl, rfl, by omega, Nat.le_refl _, rfl⟩
      case round =>
        obtain ⟨a, q, rfl, rfl, h1, hqq, hna⟩ := hrel
        rcases Nat.lt_or_ge 1 q with h | h
        · have d1 : decide ((q : Int) > 1) = true := decide_eq_true (by omega)
          have hd : (q : Int) / 2 = ((q / 2 : Nat) : Int) := by omega
          have ht : (q : Int).tdiv 2 = ((q / 2 : Nat) : Int) := by rw [Int.tdiv_eq_ediv_of_nonneg (by omega)]; exact hd
          have hdw : IntKind.i64.wrap ((q / 2 : Nat) : Int) = ((q / 2 : Nat) : Int) := by rw [IntKind.wrap_i64]; omega
          have haw : IntKind.i64.wrap ((a : Int) + 1) = (a : Int) + 1 := by rw [IntKind.wrap_i64]; omega
          have hr : need (q / 2) + (a + 1) = need q0 := by have := L.need_half q (by omega) (by omega); omega
          have hb1 : 1 ≤ q / 2 := by omega
          have hb2 : q / 2 < q := by omega
          generalize q / 2 = r at *
          go_wp2_with fail
          go_round
          case rel => exact ⟨a + 1, r, by go_num, by first | rfl | go_num, hb1, by omega, hr⟩
          case measure => simp [intOf]; omega
        · obtain rfl : q = 1 := by omega
          rw [L.need_one] at hna
          have ha : a = need q0 - 1 := by omega
          have HA := hid ha
          clear ha hna h
          go_wp2_with fail
          go_ret
          exact ⟨by first | (rw [HW.out, ← HA.out]; rfl) | (rw [Int.toNat_natCast, HW.out, ← HA.out]; rfl), rfl⟩

/-- Not too many bits, as the laws ask. -/
def L.fewB (n : Nat) (B : Int) : Bool := decide (n ≤ 100) && (decide (B < 4096) || (decide (0 < n) && decide (B.toNat / 2 ^ wd n B.toNat < 4096)))
theorem L.fewB_few {l : List Nat} {b : Nat} (h : fewB l.length (b : Nat) = true) (hr : RightN l b) : Few l b := by
  unfold fewB at h
  simp only [Bool.and_eq_true, Bool.or_eq_true, decide_eq_true_eq, Int.toNat_natCast] at h
  refine ⟨by omega, ?_⟩
  rcases h.2 with h2 | h2
  · exact Nat.le_trans (Nat.div_le_self _ _) (by omega)
  · have := Nat.div_le_div_right (c := 2 ^ wd l.length b) (show b - 1 ≤ b by omega)
    omega
theorem L.wd_le64 (n B : Nat) (hB : B < 9223372036854775808) : wd n B ≤ 63 := by
  unfold wd
  split
  · omega
  · have := (need_spec (B / n) (Nat.lt_of_le_of_lt (Nat.div_le_self _ _) (by omega))).2.2
    omega

set_option maxHeartbeats 2000000 in
theorem few_any (A : Option Addr) (c n : Nat) (B : Int) (w : World) (hn : n ≤ 1000000 ∨ 100 < n) (hB : B ≤ 9223372036854775807) :
    Calls Tryd.prog 17 #[.slice A n c, .int .i64 B] w fun e w' => e = .returned (.bool (fewB n B)) ∧ w = w' := by
  by_cases h1 : n ≤ 100
  · have d1 : decide ((n : Int) ≤ 100) = true := decide_eq_true (by omega)
    by_cases h2 : B < 4096
    · have d2 : decide (B < 4096) = true := decide_eq_true h2
      have HF := hid (show fewB n B = true by unfold fewB; rw [decide_eq_true h1, d2]; rfl)
      go_enter Tryd.func17, Tryd.ntmps17
      go_wp2_with fail
      go_ret
      exact ⟨by rw [HF.out]; rfl, rfl⟩
    · have d2 : decide (B < 4096) = false := decide_eq_false h2
      rcases Nat.eq_zero_or_pos n with h3 | h3
      · have d3 : decide ((n : Int) > 0) = false := decide_eq_false (by omega)
        have d3N : ¬ 0 < n := by omega
        have HF := hid (show fewB n B = false by unfold fewB; rw [decide_eq_true h1, d2, decide_eq_false d3N]; rfl)
        clear h3
        go_enter Tryd.func17, Tryd.ntmps17
        go_wp2_with fail
        go_ret
        exact ⟨by rw [HF.out]; rfl, rfl⟩
      · have d3 : decide ((n : Int) > 0) = true := decide_eq_true (by omega)
        obtain ⟨b, rfl⟩ := Int.eq_ofNat_of_zero_le (show 0 ≤ B by omega)
        have HF := hid (show fewB n (b : Nat) = decide (b / 2 ^ wd n b < 4096) by unfold fewB; rw [decide_eq_true h1, d2, decide_eq_true h3, Int.toNat_natCast]; simp)
        have HW := hid (fun W => refWidth_any n (b : Nat) W (by omega) hB)
        rw [show ((b : Nat) : Int).toNat = b from Int.toNat_natCast b] at HW
        have hw63 := wd_le64 n b (by omega)
        generalize wd n b = W at *
        obtain ⟨r, hr⟩ : ∃ r, r = b / 2 ^ W := ⟨_, rfl⟩
        have hrI : (b : Int) / 2 ^ W = (r : Int) := by rw [hr]; norm_cast
        rw [← hr] at HF
        clear hr
        have hm64 : min W 64 = W := by omega
        have hW0 : (0 : Int) ≤ (W : Int) := by omega
        have hd : decide ((r : Int) < 4096) = decide (r < 4096) := by rw [Bool.eq_iff_iff]; simp; omega
        go_enter Tryd.func17, Tryd.ntmps17
        go_wp2_with fail
        (with_reducible refine (HW.out _).mono ?_)
        rintro e w' ⟨rfl, rfl⟩
        go_wp2_with fail
        go_ret
        exact ⟨by rw [HF.out]; first | rfl | simp [hd], rfl⟩
  · have d1 : decide ((n : Int) ≤ 100) = false := decide_eq_false (by omega)
    have HF := hid (show fewB n B = false by unfold fewB; rw [decide_eq_false h1]; rfl)
    go_enter Tryd.func17, Tryd.ntmps17
    go_wp2_with fail
    go_ret
    exact ⟨by rw [HF.out]; rfl, rfl⟩

theorem lst_four {w : World} {g : Nat} {T : TypeId} {x y z u : Value} (h : BlkIs w g T #[x, y, z, u]) : Lst w (some ⟨g, 0, none⟩) [x, y, z, u] := fun i u hi => ⟨_, rfl, by
  rw [add_zero_, h.cell i]; simpa using hi⟩

set_option maxHeartbeats 1000000 in
theorem awake5 (w : World) (hT : Tab w) : Calls Tryd.prog 14 #[] w fun e w' => e = .returned (.bool true) ∧ Below w.heap.size w w' := by
  have hl : Lst (w.alloc (.cells #[.int .i64 1, .int .i64 4, .int .i64 4, .int .i64 9] 3)) (some ⟨w.heap.size, 0, none⟩) (natCells [1, 4, 4, 9]) := lst_four (BlkIs.new _ _ _)
  have hB0 : Below w.heap.size w (w.alloc (.cells #[.int .i64 1, .int .i64 4, .int .i64 4, .int .i64 9] 3)) := (Below.refl _ _).alloc (Nat.le_refl _) _
  have hr : RightN [1, 4, 4, 9] 10 := ⟨by omega, by unfold Ris; decide, by decide⟩
  have hwd0 : wd 4 10 = 1 := by unfold wd; decide
  have hf : Few [1, 4, 4, 9] 10 := ⟨by decide, Nat.le_trans (Nat.div_le_self _ _) (by decide)⟩
  have HM := hid (make_ok (some ⟨w.heap.size, 0, none⟩) 4 [1, 4, 4, 9] 10 _ hl hr hf)
  have hz0 := hB0.size
  have HC := hid (show clz [1, 4, 4, 9] 4 = 1 by decide)
  clear hl
  go_enter Tryd.func14, Tryd.ntmps14
  go_wp2_with fail
  refine HM.out.mono ?_
  rintro e w1 ⟨s, rfl, hs, hB1, _⟩
  have hBa := hB0.trans (hB1.mono hz0)
  have hza := hBa.size
  go_wp2_with fail
  refine (seqLen_any s _ 10 _ hs).mono ?_
  rintro e w2 ⟨rfl, rfl⟩
  go_wp2_with fail
  refine (less_any s _ 10 4 _ hs (hT.below hBa) hr hf).mono ?_
  rw [HC.out]
  rintro e w3 ⟨rfl, hB3⟩
  go_wp2_with fail
  go_ret
  exact ⟨rfl, hBa.trans (hB3.mono hza)⟩

end Go.Proofs.YtlpnbkfcbamnbaaDoor

/- Walks: the law FanoMakes returns true. -/

set_option linter.unusedVariables false
set_option linter.unusedSimpArgs false
set_option maxRecDepth 100000
namespace Go.Proofs.YtlpnbkfcbamnbaaDoor
open Go.RowKit Go.Shelf L

/-- Right or not, as one number. -/
theorem refRight_is (A : Option Addr) (c : Nat) (zs : List Int) (B : Int) (w : World) (hl : Lst w A (ints zs)) (hn : zs.length ≤ 1000000) (ok : Bool) (h : ok = true ↔ RightZ zs B) :
    Calls Tryd.prog 15 #[.slice A zs.length c, .int .i64 B] w fun e w' => e = .returned (.bool ok) ∧ Below w.heap.size w w' := by
  refine (refRight_any A c zs B w hl hn).mono ?_
  rintro e w' ⟨ok', m, rfl, rfl, h'⟩
  have : ok' = ok := by rw [Bool.eq_iff_iff, h, h']
  subst this
  exact ⟨rfl, below_of_drewN (Below.refl _ (w.drewN m))⟩

set_option maxHeartbeats 2000000 in
theorem lawFanoMakes_long (A : Option Addr) (n c : Nat) (B : Int) (w : World) (hn : 100 < n) (hT : Tab w) :
    Calls Tryd.prog 3 #[.slice A n c, .int .i64 B] w fun e w' => e = .returned (.bool true) ∧ Below w.heap.size w w' := by
  have h1 : decide ((n : Int) > 100) = true := decide_eq_true (by omega)
  go_enter Tryd.func3, Tryd.ntmps3
  go_wp2_with fail
  refine (awake5 _ hT).mono ?_
  rintro e w1 ⟨rfl, hB1⟩
  go_wp2_with fail
  refine (awake5 _ (hT.below hB1)).mono ?_
  rintro e w2 ⟨rfl, hB2⟩
  go_wp2_with fail
  go_ret
  exact ⟨rfl, hB1.trans (hB2.mono hB1.size)⟩

set_option maxHeartbeats 2000000 in
theorem lawFanoMakes_wrong (A : Option Addr) (c : Nat) (zs : List Int) (B : Int) (w : World) (hl : Lst w A (ints zs)) (hn : zs.length ≤ 100) (hT : Tab w) (hr : ¬ RightZ zs B) :
    Calls Tryd.prog 3 #[.slice A zs.length c, .int .i64 B] w fun e w' => e = .returned (.bool true) ∧ Below w.heap.size w w' := by
  have h1 : decide ((zs.length : Int) > 100) = false := decide_eq_false (by omega)
  have HR := hid hr
  have hlen : ¬ (100 < zs.length) := by omega
  clear hr
  go_enter Tryd.func3, Tryd.ntmps3
  go_wp2_with fail
  refine (awake5 _ hT).mono ?_
  rintro e w1 ⟨rfl, hB1⟩
  have hz1 := hB1.size
  go_wp2_with fail
  refine (refRight_is A c zs B _ (hl.below hB1) (by omega) false ⟨fun h => (by cases h), fun h => absurd h HR.out⟩).mono ?_
  rintro e w2 ⟨rfl, hB2⟩
  have hBb := hB1.trans (hB2.mono hz1)
  go_wp2_with fail
  refine (make_err A c zs B _ (hl.below hBb) (by omega) HR.out).mono ?_
  rintro e w3 ⟨rfl, rfl⟩
  go_wp2_with fail
  go_ret
  exact ⟨rfl, hBb⟩

set_option maxHeartbeats 2000000 in
theorem lawFanoMakes_many (A : Option Addr) (c : Nat) (zs : List Int) (B : Int) (w : World) (hl : Lst w A (ints zs)) (hn : zs.length ≤ 100) (hB : B ≤ 9223372036854775807) (hT : Tab w) (hr : RightZ zs B) (hf : fewB zs.length B = false) :
    Calls Tryd.prog 3 #[.slice A zs.length c, .int .i64 B] w fun e w' => e = .returned (.bool true) ∧ Below w.heap.size w w' := by
  have h1 : decide ((zs.length : Int) > 100) = false := decide_eq_false (by omega)
  have HR := hid hr
  have hlen : ¬ (100 < zs.length) := by omega
  have HF := hid (fun W => few_any A c zs.length B W (by omega) hB)
  rw [hf] at HF
  clear hr hf
  go_enter Tryd.func3, Tryd.ntmps3
  go_wp2_with fail
  refine (awake5 _ hT).mono ?_
  rintro e w1 ⟨rfl, hB1⟩
  have hz1 := hB1.size
  go_wp2_with fail
  refine (refRight_is A c zs B _ (hl.below hB1) (by omega) true ⟨fun h => HR.out, fun _ => rfl⟩).mono ?_
  rintro e w2 ⟨rfl, hB2⟩
  have hBb := hB1.trans (hB2.mono hz1)
  go_wp2_with fail
  refine (HF.out _).mono ?_
  rintro e w3 ⟨rfl, rfl⟩
  go_wp2_with fail
  go_ret
  exact ⟨rfl, hBb⟩

set_option maxHeartbeats 4000000 in
theorem lawFanoMakes_true (A : Option Addr) (c : Nat) (l : List Nat) (B : Nat) (w : World) (hl : Lst w A (natCells l)) (hn : l.length ≤ 100) (hT : Tab w) (hr : RightN l B) (hf : fewB l.length (B : Nat) = true) :
    Calls Tryd.prog 3 #[.slice A l.length c, .int .i64 (B : Nat)] w fun e w' => e = .returned (.bool true) ∧ Below w.heap.size w w' := by
  have h1 : decide ((l.length : Int) > 100) = false := decide_eq_false (by omega)
  have hFew := fewB_few hf hr
  have hlen : ¬ (100 < l.length) := by omega
  have hB1 := hr.1
  have HF := hid (fun W => few_any A c l.length (B : Nat) W (by omega) (by omega))
  rw [hf] at HF
  clear hf
  have HRI := hid (show ∀ W, Lst W A (natCells l) → Calls Tryd.prog 15 #[.slice A l.length c, .int .i64 (B : Nat)] W fun e w' => e = .returned (.bool true) ∧ Below W.heap.size W w' from fun W hW => by
    have := refRight_is A c (l.map (fun x : Nat => (x : Int))) (B : Nat) W (by rw [ints_nat]; exact hW) (by rw [List.length_map]; omega) true ⟨fun _ => hr.z (by omega), fun _ => rfl⟩
    rwa [List.length_map] at this)
  have HM := hid (fun W hW => make_ok A c l B W hW hr hFew)
  go_enter Tryd.func3, Tryd.ntmps3
  go_wp2_with fail
  refine (awake5 _ hT).mono ?_
  rintro e w1 ⟨rfl, hB1⟩
  have hz1 := hB1.size
  go_wp2_with fail
  refine (HRI.out _ (hl.below hB1)).mono ?_
  rintro e w2 ⟨rfl, hB2⟩
  have hBb := hB1.trans (hB2.mono hz1)
  have hzb := hBb.size
  clear hB1 hB2
  go_wp2_with fail
  refine (HF.out _).mono ?_
  rintro e w3 ⟨rfl, rfl⟩
  go_wp2_with fail
  refine (HM.out _ (hl.below hBb)).mono ?_
  rintro e w4 ⟨s, rfl, hs, hB4, _⟩
  have hBc := hBb.trans (hB4.mono hzb)
  have hzc := hBc.size
  clear hBb hB4
  go_wp2_with fail
  refine (seqLen_any s l B _ hs).mono ?_
  rintro e w5 ⟨rfl, rfl⟩
  go_wp2_with fail
  refine (seqBound_any s l B _ hs).mono ?_
  rintro e w5 ⟨rfl, rfl⟩
  go_wp2_with fail
  go_loopw [9] (fun iv wr => ∃ z : Int, iv = .int .i64 z ∧ -1 ≤ z ∧ z ≤ (l.length : Int) + 1 ∧ Below w4.heap.size w4 wr) (fun iv _ => ((l.length : Int) + 1 - intOf iv).toNat)
  case atStart => exact ⟨-1, rfl, by omega, by omega, Below.refl _ _⟩
  case round =>
    obtain ⟨z, rfl, hz0, hz2, hB⟩ := hrel
    have hzr := hB.size
    have hzw : IntKind.i64.wrap (z + 1) = z + 1 := by rw [IntKind.wrap_i64]; omega
    by_cases hz : z ≤ (l.length : Int)
    · have g0 : decide (z ≤ (l.length : Int)) = true := decide_eq_true hz
      by_cases h : z < 0
      · have g1 : decide (z < 0) = true := decide_eq_true h
        have HG := hid (sGet_out s l B z _ (hs.below hB) (Or.inl h))
        go_wp2_with fail
        refine HG.out.mono ?_
        rintro e w6 ⟨rfl, rfl⟩
        go_wp2_with fail
        go_roundw
        case rel => exact ⟨z + 1, rfl, by omega, by omega, hB⟩
        case measure => simp [intOf]; omega
      · have g1 : decide (z < 0) = false := decide_eq_false h
        by_cases h2 : z = (l.length : Int)
        · have g2 : decide (z ≥ (l.length : Int)) = true := decide_eq_true (by omega)
          have HG := hid (sGet_out s l B z _ (hs.below hB) (Or.inr (by omega)))
          have H2 := hid h2
          have h2N : (l.length : Int) ≤ z := by omega
          clear h2 hz
          go_wp2_with fail
          refine HG.out.mono ?_
          rintro e w6 ⟨rfl, rfl⟩
          go_wp2_with fail
          go_roundw
          case rel => exact ⟨z + 1, rfl, by omega, by have := H2.out; omega, hB⟩
          case measure => have := H2.out; simp [intOf]; omega
        · have g2 : decide (z ≥ (l.length : Int)) = false := decide_eq_false (by omega)
          have g2N : ¬ ((l.length : Int) ≤ z) := by omega
          obtain ⟨j, rfl⟩ := Int.eq_ofNat_of_zero_le (show 0 ≤ z by omega)
          have hj : j < l.length := by omega
          have HG := hid (sGet_in s l B j _ (hs.below hB) ((hT.below hBc).below hB) hr hFew hj)
          obtain ⟨ab, ao, rfl, had, hcl⟩ := hl.lit (by rw [natCells_length]; omega)
          have hcell := fun W (hW : Below w.heap.size w W) => (hW.cell (p := ⟨ab, ao + j, none⟩) had).trans (hcl j (.int .i64 (l[j] : Nat)) (by unfold natCells; rw [List.getElem?_map, List.getElem?_eq_getElem hj]; rfl))
          have HC := hid hcell
          clear hcell hcl h2 hz
          generalize l[j] = x at *
          have hji : (j : Int) < (l.length : Int) := by omega
          have hj0 : (0 : Int) ≤ (j : Int) := by omega
          go_wp2_with fail
          refine HG.out.mono ?_
          rintro e w6 ⟨rfl, hB6⟩
          have hBd := hB.trans (hB6.mono hzr)
          have hcell := HC.out _ (hBc.trans (hBd.mono hzc))
          go_wp2_with fail
          first | go_quiet (fail) | skip
          go_wp2_with fail
          go_roundw
          case rel => exact ⟨(j : Int) + 1, by first | rfl | go_num, by omega, by omega, by first | exact hBd | exact ⟨hBd.os, hBd.tape, hBd.output, hBd.size, hBd.block⟩⟩
          case measure => simp [intOf]; omega
    · have g0 : decide (z ≤ (l.length : Int)) = false := decide_eq_false hz
      go_wp2_with fail
      go_ret
      exact ⟨rfl, hBc.trans (hB.mono hzc)⟩

theorem lawFanoMakes_any (A : Option Addr) (c : Nat) (zs : List Int) (B : Int) (w : World) (hl : Lst w A (ints zs)) (hB : B ≤ 9223372036854775807) (hT : Tab w) :
    Calls Tryd.prog 3 #[.slice A zs.length c, .int .i64 B] w fun e w' => e = .returned (.bool true) ∧ Below w.heap.size w w' := by
  rcases Nat.lt_or_ge 100 zs.length with h | h
  · exact lawFanoMakes_long A _ c B w h hT
  · by_cases hr : RightZ zs B
    · cases hf : fewB zs.length B with
      | false => exact lawFanoMakes_many A c zs B w hl h hB hT hr hf
      | true =>
        obtain ⟨l, b, rfl, rfl, hN, hlt⟩ := rightZ_nat hr
        rw [List.length_map] at hf h ⊢
        rw [ints_nat] at hl
        exact lawFanoMakes_true A c l b w hl h hT hN hf
    · exact lawFanoMakes_wrong A c zs B w hl h hT hr

end Go.Proofs.YtlpnbkfcbamnbaaDoor

/- Walks: the reference's less, next, and the one ahead. -/

set_option linter.unusedVariables false
set_option linter.unusedSimpArgs false
set_option maxRecDepth 100000
namespace Go.Proofs.YtlpnbkfcbamnbaaDoor
open Go.RowKit Go.Shelf L

theorem L.clz_unique {l : List Nat} (h : Ris l) {x : Int} {i : Nat} (hi : i ≤ l.length) (h1 : ∀ j (hj : j < i), (l[j]'(by omega) : Int) < x) (h2 : ∀ hi' : i < l.length, x ≤ (l[i] : Int)) : clz l x = i := by
  refine cl_unique h hi (fun j hj => ?_) (fun hi' => ?_)
  · have := h1 j hj; omega
  · have := h2 hi'; omega
theorem L.clz_count (l : List Nat) (x : Int) : clz l x = l.countP fun y : Nat => decide ((y : Int) < x) := by
  unfold clz cl
  exact List.countP_congr (fun y _ => by simp <;> omega)

def oF (o : Option Nat) : Nat := o.getD 0
def oB (o : Option Nat) : Bool := o.isSome
theorem oN_eq (o : Option Nat) : oN o = .tuple #[.int .i64 (oF o : Nat), .bool (oB o)] := by cases o <;> rfl
theorem hasN_eq (l : List Nat) (x : Int) : hasN l x = (oB (nxt l x) && ((oF (nxt l x) : Int) == x)) := by
  unfold hasN
  cases nxt l x with
  | none => rfl
  | some y =>
    simp only [oB, oF, Option.isSome, Option.getD, Bool.true_and]
    rw [Bool.eq_iff_iff]; simp; omega

set_option maxHeartbeats 1000000 in
theorem refNext_any (A : Option Addr) (c : Nat) (l : List Nat) (x : Int) (w : World) (hl : Lst w A (natCells l)) (hn : l.length ≤ 1000000) (hr : Ris l) :
    Calls Tryd.prog 25 #[.slice A l.length c, .int .i64 x] w fun e w' => e = .returned (oN (nxt l x)) ∧ w = w' := by
  go_enter Tryd.func25, Tryd.ntmps25
  go_wp2_with fail
  go_loop [6] (fun iv => ∃ (i : Nat), iv = .int .i64 (i : Nat) ∧ i ≤ l.length ∧ ∀ j (hj : j < i), (hj2 : j < l.length) → (l[j] : Int) < x) (fun iv => l.length - (intOf iv).toNat)
  case atStart => exact ⟨0, rfl, by omega, fun j hj => by omega⟩
  case round =>
    obtain ⟨i, rfl, hi, hall⟩ := hrel
    rcases Nat.lt_or_ge i l.length with hlt | hge
    · have hii : (i : Int) < (l.length : Int) := by omega
      have hi0 : (0 : Int) ≤ (i : Int) := by omega
      have hiW := wrap_one i (by omega)
      obtain ⟨g, o, rfl, _, hc⟩ := hl.lit (by rw [natCells_length]; omega)
      have hcell := hc i (.int .i64 (l[i] : Nat)) (by unfold natCells; rw [List.getElem?_map, List.getElem?_eq_getElem hlt]; rfl)
      by_cases h : x ≤ (l[i] : Int)
      · have HN := hid (show nxt l x = some l[i] by unfold nxt; rw [L.clz_unique hr (by omega) (fun j hj => hall j hj (by omega)) (fun _ => h), List.getElem?_eq_getElem hlt])
        have k1 : decide ((l[i] : Int) ≥ x) = true := decide_eq_true h
        clear hc hall
        generalize l[i] = y at *
        go_wp2_with fail
        go_ret2
        exact ⟨by rw [HN.out]; rfl, rfl⟩
      · have HA := hid (show ∀ j (hj : j < i + 1), (hj2 : j < l.length) → (l[j] : Int) < x from fun j hj hj2 => by
          rcases Nat.lt_or_ge j i with h' | h'
          · exact hall j h' hj2
          · obtain rfl : j = i := by omega
            omega)
        have k1 : decide ((l[i] : Int) ≥ x) = false := decide_eq_false h
        clear hc hall
        generalize l[i] = y at *
        go_wp2_with fail
        go_round
        case rel => exact ⟨i + 1, by go_num, by omega, HA.out⟩
        case measure => simp [intOf]; omega
    · obtain rfl : i = l.length := by omega
      have HN := hid (show nxt l x = none by unfold nxt; rw [L.clz_unique hr (Nat.le_refl _) (fun j hj => hall j hj hj) (fun h => absurd h (by omega)), List.getElem?_eq_none (Nat.le_refl _)])
      clear hall
      go_wp2_with fail
      go_ret2
      exact ⟨by rw [HN.out]; rfl, rfl⟩

set_option maxHeartbeats 1000000 in
theorem refPrev_any (A : Option Addr) (c : Nat) (l : List Nat) (x : Int) (w : World) (hl : Lst w A (natCells l)) (hn : l.length ≤ 1000000) (hr : Ris l) :
    Calls Tryd.prog 26 #[.slice A l.length c, .int .i64 x] w fun e w' => e = .returned (oN (prv l x)) ∧ w = w' := by
  have hw0 : IntKind.i64.wrap ((l.length : Int) - 1) = (l.length : Int) - 1 := by rw [IntKind.wrap_i64]; omega
  go_enter Tryd.func26, Tryd.ntmps26
  go_wp2_with fail
  go_loop [6] (fun iv => ∃ (z : Int), iv = .int .i64 z ∧ -1 ≤ z ∧ z < l.length ∧ ∀ j (hj : j < l.length), z < (j : Int) → x < (l[j] : Int)) (fun iv => (intOf iv + 1).toNat)
  case atStart => exact ⟨(l.length : Int) - 1, rfl, by omega, by omega, fun j hj h => by omega⟩
  case round =>
    obtain ⟨z, rfl, hz, hz2, hall⟩ := hrel
    have hzW : IntKind.i64.wrap (z - 1) = z - 1 := by rw [IntKind.wrap_i64]; omega
    by_cases hz0 : 0 ≤ z
    · obtain ⟨i, rfl⟩ := Int.eq_ofNat_of_zero_le hz0
      have hlt : i < l.length := by omega
      have hi0 : (0 : Int) ≤ (i : Int) := by omega
      have d0 : decide ((i : Int) ≥ 0) = true := decide_eq_true (by omega)
      obtain ⟨g, o, rfl, _, hc⟩ := hl.lit (by rw [natCells_length]; omega)
      have hcell := hc i (.int .i64 (l[i] : Nat)) (by unfold natCells; rw [List.getElem?_map, List.getElem?_eq_getElem hlt]; rfl)
      by_cases h : (l[i] : Int) ≤ x
      · have HN := hid (show prv l x = some l[i] by
          have e : clz l (x + 1) = i + 1 := L.clz_unique hr (by omega) (fun j hj => by
            have := hr.le (i := j) (j := i) (by omega) hlt
            omega) (fun hi' => by have := hall (i + 1) hi' (by omega); omega)
          unfold prv; rw [e, if_neg (by omega), Nat.add_sub_cancel, List.getElem?_eq_getElem hlt])
        have k1 : decide ((l[i] : Int) ≤ x) = true := decide_eq_true h
        clear hc hall
        generalize l[i] = y at *
        go_wp2_with fail
        go_ret2
        exact ⟨by rw [HN.out]; rfl, rfl⟩
      · have HA := hid (show ∀ j (hj : j < l.length), (i : Int) - 1 < (j : Int) → x < (l[j] : Int) from fun j hj h1 => by
          by_cases h' : (i : Int) < (j : Int)
          · exact hall j hj h'
          · obtain rfl : j = i := by omega
            omega)
        have k1 : decide ((l[i] : Int) ≤ x) = false := decide_eq_false h
        clear hc hall
        generalize l[i] = y at *
        go_wp2_with fail
        go_round
        case rel => exact ⟨(i : Int) - 1, by first | rfl | go_num, by omega, by omega, HA.out⟩
        case measure => simp [intOf] <;> omega
    · obtain rfl : z = -1 := by omega
      have HN := hid (show prv l x = none by
        have e : clz l (x + 1) = 0 := L.clz_unique hr (Nat.zero_le _) (fun j hj => by omega) (fun h => by have := hall 0 h (by omega); omega)
        unfold prv; simp [e])
      clear hall
      go_wp2_with fail
      go_ret2
      exact ⟨by rw [HN.out]; rfl, rfl⟩

set_option maxHeartbeats 1000000 in
theorem refLess_any (A : Option Addr) (c : Nat) (l : List Nat) (x : Int) (w : World) (hl : Lst w A (natCells l)) (hn : l.length ≤ 1000000) :
    Calls Tryd.prog 27 #[.slice A l.length c, .int .i64 x] w fun e w' => e = .returned (.int .i64 (clz l x : Nat)) ∧ w = w' := by
  have HC := hid (L.clz_count l x)
  go_enter Tryd.func27, Tryd.ntmps27
  go_wp2_with fail
  go_loop [5, 6] (fun nv iv => ∃ (a i : Nat), nv = .int .i64 (a : Nat) ∧ iv = .int .i64 (i : Nat) ∧ i ≤ l.length ∧ a ≤ i ∧ a = (l.take i).countP fun y : Nat => decide ((y : Int) < x)) (fun _ iv => l.length - (intOf iv).toNat)
  case atStart => exact ⟨0, 0, rfl, rfl, by omega, by omega, rfl⟩
  case round =>
    obtain ⟨a, i, rfl, rfl, hi, hai, ha⟩ := hrel
    have HA := hid ha
    clear ha
    rcases Nat.lt_or_ge i l.length with hlt | hge
    · have hii : (i : Int) < (l.length : Int) := by omega
      have hi0 : (0 : Int) ≤ (i : Int) := by omega
      have hiW := wrap_one i (by omega)
      have haW := wrap_one a (by omega)
      obtain ⟨g, o, rfl, _, hc⟩ := hl.lit (by rw [natCells_length]; omega)
      have hcell := hc i (.int .i64 (l[i] : Nat)) (by unfold natCells; rw [List.getElem?_map, List.getElem?_eq_getElem hlt]; rfl)
      have HT := hid (show (l.take (i + 1)).countP (fun y : Nat => decide ((y : Int) < x)) = a + if decide ((l[i] : Int) < x) = true then 1 else 0 by
        rw [List.take_succ_eq_append_getElem hlt, List.countP_append, ← HA.out, List.countP_singleton])
      clear hc HA
      generalize l[i] = y at *
      by_cases h : (y : Int) < x
      · have k1 : decide ((y : Int) < x) = true := decide_eq_true h
        rw [k1, if_pos rfl] at HT
        go_wp2_with fail
        go_round
        case rel => exact ⟨a + 1, i + 1, by go_num, by go_num, by omega, by omega, HT.out.symm⟩
        case measure => simp [intOf]; omega
      · have k1 : decide ((y : Int) < x) = false := decide_eq_false h
        rw [k1, if_neg (by simp)] at HT
        go_wp2_with fail
        go_round
        case rel => exact ⟨a, i + 1, rfl, by go_num, by omega, by omega, HT.out.symm⟩
        case measure => simp [intOf]; omega
    · obtain rfl : i = l.length := by omega
      rw [List.take_length] at HA
      go_wp2_with fail
      go_ret
      exact ⟨by rw [HC.out, ← HA.out]; rfl, rfl⟩

end Go.Proofs.YtlpnbkfcbamnbaaDoor

/- Walks: the law FanoAsks returns true. -/


set_option linter.unusedVariables false
set_option linter.unusedSimpArgs false
set_option maxRecDepth 100000
namespace Go.Proofs.YtlpnbkfcbamnbaaDoor
open Go.RowKit Go.Shelf L Go.Sort

set_option maxHeartbeats 2000000 in
theorem lawFanoAsks_long (A : Option Addr) (n c : Nat) (B : Int) (A2 : Option Addr) (n2 c2 : Nat) (w : World) (hn : 20 < n2) (hT : Tab w) :
    Calls Tryd.prog 6 #[.slice A n c, .int .i64 B, .slice A2 n2 c2] w fun e w' => e = .returned (.bool true) ∧ Below w.heap.size w w' := by
  have h1 : decide ((n2 : Int) > 20) = true := decide_eq_true (by omega)
  go_enter Tryd.func6, Tryd.ntmps6
  go_wp2_with fail
  refine (awake5 _ hT).mono ?_
  rintro e w1 ⟨rfl, hB1⟩
  go_wp2_with fail
  refine (awake5 _ (hT.below hB1)).mono ?_
  rintro e w2 ⟨rfl, hB2⟩
  go_wp2_with fail
  go_ret
  exact ⟨rfl, hB1.trans (hB2.mono hB1.size)⟩

set_option maxHeartbeats 2000000 in
theorem lawFanoAsks_many (A : Option Addr) (n c : Nat) (B : Int) (A2 : Option Addr) (n2 c2 : Nat) (w : World) (hB : B ≤ 9223372036854775807) (hn2 : n2 ≤ 20) (hf : fewB n B = false) (hT : Tab w) :
    Calls Tryd.prog 6 #[.slice A n c, .int .i64 B, .slice A2 n2 c2] w fun e w' => e = .returned (.bool true) ∧ Below w.heap.size w w' := by
  have h1 : decide ((n2 : Int) > 20) = false := decide_eq_false (by omega)
  have h1N : ¬ 20 < n2 := by omega
  have HF := hid (fun W => few_any A c n B W (by omega) hB)
  rw [hf] at HF
  clear hf
  go_enter Tryd.func6, Tryd.ntmps6
  go_wp2_with fail
  refine (awake5 _ hT).mono ?_
  rintro e w1 ⟨rfl, hB1⟩
  go_wp2_with fail
  refine (HF.out _).mono ?_
  rintro e w3 ⟨rfl, rfl⟩
  go_wp2_with fail
  refine (awake5 _ (hT.below hB1)).mono ?_
  rintro e w2 ⟨rfl, hB2⟩
  go_wp2_with fail
  go_ret
  exact ⟨rfl, hB1.trans (hB2.mono hB1.size)⟩

set_option maxHeartbeats 2000000 in
theorem lawFanoAsks_wrong (A : Option Addr) (c : Nat) (zs : List Int) (B : Int) (A2 : Option Addr) (n2 c2 : Nat) (w : World) (hl : Lst w A (ints zs)) (hn : zs.length ≤ 1000000) (hB : B ≤ 9223372036854775807) (hn2 : n2 ≤ 20) (hf : fewB zs.length B = true) (hr : ¬ RightZ zs B) (hT : Tab w) :
    Calls Tryd.prog 6 #[.slice A zs.length c, .int .i64 B, .slice A2 n2 c2] w fun e w' => e = .returned (.bool true) ∧ Below w.heap.size w w' := by
  have h1 : decide ((n2 : Int) > 20) = false := decide_eq_false (by omega)
  have h1N : ¬ 20 < n2 := by omega
  have HF := hid (fun W => few_any A c zs.length B W (by omega) hB)
  rw [hf] at HF
  have HR := hid hr
  clear hf hr
  go_enter Tryd.func6, Tryd.ntmps6
  go_wp2_with fail
  refine (awake5 _ hT).mono ?_
  rintro e w1 ⟨rfl, hB1⟩
  have hz1 := hB1.size
  go_wp2_with fail
  refine (HF.out _).mono ?_
  rintro e w3 ⟨rfl, rfl⟩
  go_wp2_with fail
  refine (refRight_is A c zs B _ (hl.below hB1) (by omega) false ⟨fun h => (by cases h), fun h => absurd h HR.out⟩).mono ?_
  rintro e w2 ⟨rfl, hB2⟩
  have hBb := hB1.trans (hB2.mono hz1)
  have hzb := hBb.size
  go_wp2_with fail
  refine (awake5 _ (hT.below hBb)).mono ?_
  rintro e w4 ⟨rfl, hB4⟩
  go_wp2_with fail
  go_ret
  exact ⟨rfl, hBb.trans (hB4.mono hzb)⟩

theorem refRight_yes {A : Option Addr} {c : Nat} {l : List Nat} {B : Nat} (hr : RightN l B) (hn : l.length ≤ 10000) (W : World) (hW : Lst W A (natCells l)) :
    Calls Tryd.prog 15 #[.slice A l.length c, .int .i64 (B : Nat)] W fun e w' => e = .returned (.bool true) ∧ Below W.heap.size W w' := by
  have := refRight_is A c (l.map (fun x : Nat => (x : Int))) (B : Nat) W (by rw [ints_nat]; exact hW) (by rw [List.length_map]; omega) true ⟨fun _ => hr.z (by omega), fun _ => rfl⟩
  rwa [List.length_map] at this

set_option maxHeartbeats 1000000 in
theorem lawFanoAsks_true (A : Option Addr) (c : Nat) (l : List Nat) (B : Nat) (A2 : Option Addr) (c2 : Nat) (ps : List Int) (w : World) (hl : Lst w A (natCells l)) (hps : Lst w A2 (ints ps)) (hm : ps.length ≤ 20) (hT : Tab w) (hr : RightN l B) (hf : fewB l.length (B : Nat) = true) :
    Calls Tryd.prog 6 #[.slice A l.length c, .int .i64 (B : Nat), .slice A2 ps.length c2] w fun e w' => e = .returned (.bool true) ∧ Below w.heap.size w w' := by
  have h1 : decide ((ps.length : Int) > 20) = false := decide_eq_false (by omega)
  have h1N : ¬ 20 < ps.length := by omega
  have hFew := fewB_few hf hr
  have hn := hFew.1
  have hB1 := hr.1
  have HF := hid (fun W => few_any A c l.length (B : Nat) W (by omega) (by omega))
  rw [hf] at HF
  clear hf
  have HRI := hid (fun W hW => refRight_yes (A := A) (c := c) hr hn W hW)
  have HM := hid (fun W hW => make_ok A c l B W hW hr hFew)
  go_enter Tryd.func6, Tryd.ntmps6
  go_wp2_with fail
  refine (awake5 _ hT).mono ?_
  rintro e w1 ⟨rfl, hB1⟩
  have hz1 := hB1.size
  go_wp2_with fail
  refine (HF.out _).mono ?_
  rintro e w3 ⟨rfl, rfl⟩
  go_wp2_with fail
  refine (HRI.out _ (hl.below hB1)).mono ?_
  rintro e w2 ⟨rfl, hB2⟩
  have hBb := hB1.trans (hB2.mono hz1)
  have hzb := hBb.size
  clear hB1 hB2
  go_wp2_with fail
  refine (HM.out _ (hl.below hBb)).mono ?_
  rintro e w4 ⟨s, rfl, hs, hB4, _⟩
  have hBc := hBb.trans (hB4.mono hzb)
  have hzc := hBc.size
  have hTc := hT.below hBc
  have hlc := hl.below hBc
  clear hBb hB4
  go_wp2_with fail
  go_loopw [9] (fun iv wr => ∃ i : Nat, i ≤ ps.length ∧ iv = .int .i64 (i : Nat) ∧ Below w4.heap.size w4 wr) (fun iv _ => ps.length - (intOf iv).toNat)
  case atStart => exact ⟨0, by omega, rfl, Below.refl _ _⟩
  case round =>
    obtain ⟨i, hi, rfl, hB⟩ := hrel
    have hzr := hB.size
    rcases Nat.lt_or_ge i ps.length with hlt | hge
    · have hii : (i : Int) < (ps.length : Int) := by omega
      have hi0 : (0 : Int) ≤ (i : Int) := by omega
      have hiW := wrap_one i (by omega)
      obtain ⟨ab, ao, rfl, had, hcl⟩ := hps.lit (by unfold ints; rw [List.length_map]; omega)
      have hwk := (hBc.cell (p := ⟨ab, ao + i, none⟩) had).trans (hcl i (.int .i64 ps[i]) (by unfold ints; rw [List.getElem?_map, List.getElem?_eq_getElem hlt]; rfl))
      have had4 : ab < w4.heap.size := by omega
      have KC := hid (show ∀ W, Below w4.heap.size w4 W → W.cell? ⟨ab, ao + i, none⟩ = some (.int .i64 ps[i]) from fun W hW => (hW.cell (p := ⟨ab, ao + i, none⟩) had4).trans hwk)
      clear hcl hwk
      generalize ps[i] = x at *
      have HN := hid (fun W (hW : Below w4.heap.size w4 W) => next_any s l B x W (hs.below hW) (hTc.below hW) hr hFew)
      have HP := hid (fun W (hW : Below w4.heap.size w4 W) => prev_any s l B x W (hs.below hW) (hTc.below hW) hr hFew)
      have HL := hid (fun W (hW : Below w4.heap.size w4 W) => show Calls Tryd.prog 21 #[.pointer (some ⟨s, 0, none⟩), .int .i64 x] W (fun e w' => e = .returned (.int .i64 (clz l x : Nat)) ∧ Below W.heap.size W w') from less_any s l B x W (hs.below hW) (hTc.below hW) hr hFew)
      have HH := hid (fun W (hW : Below w4.heap.size w4 W) => show Calls Tryd.prog 22 #[.pointer (some ⟨s, 0, none⟩), .int .i64 x] W (fun e w' => e = .returned (.bool (hasN l x)) ∧ Below W.heap.size W w') from has_any s l B x W (hs.below hW) (hTc.below hW) hr hFew)
      have HrN := hid (fun W (hW : Below w4.heap.size w4 W) => refNext_any A c l x W (hlc.below hW) (by omega) hr.2.1)
      have HrP := hid (fun W (hW : Below w4.heap.size w4 W) => refPrev_any A c l x W (hlc.below hW) (by omega) hr.2.1)
      have HrL := hid (fun W (hW : Below w4.heap.size w4 W) => refLess_any A c l x W (hlc.below hW) (by omega))
      rw [hasN_eq] at HH
      simp only [oN_eq] at HN HP HrN HrP
      generalize oF (prv l x) = pf at *
      generalize oB (prv l x) = pb at *
      generalize oF (nxt l x) = nf at *
      generalize oB (nxt l x) = nb' at *
      generalize L.clz l x = cz at *
      have k0 := KC.out _ hB
      go_wp2_with fail
      refine (HN.out _ hB).mono ?_
      rintro e w5 ⟨rfl, hB5⟩
      have hBd := hB.trans (hB5.mono hzr)
      have hzd := hBd.size
      have k1 := KC.out _ hBd
      clear hB5
      go_wp2_with fail
      refine (HrN.out _ hBd).mono ?_
      rintro e w' ⟨rfl, rfl⟩
      go_wp2_with fail
      refine (HP.out _ hBd).mono ?_
      rintro e w6 ⟨rfl, hB6⟩
      have hBe := hBd.trans (hB6.mono hzd)
      have hze := hBe.size
      have k2 := KC.out _ hBe
      clear hB6
      go_wp2_with fail
      refine (HrP.out _ hBe).mono ?_
      rintro e w' ⟨rfl, rfl⟩
      go_wp2_with fail
      have hcg : ∀ d os, (grow (redrawn w6 d) os).cell? ⟨ab, ao + i, none⟩ = some (.int .i64 x) := fun d os => cell_regrown k2 d os
      have hlo : ∀ d os, Below w4.heap.size w4 (grow (redrawn w6 d) os) := fun d os => hBe.trans ((below_regrown w6 d os).mono hze)
      have CL := hid (fun d os => Calls.regrown_of (w := w6) (d := d) (os := os) (HL.out (grow (redrawn w6 d) os) (hlo d os)))
      have CH := hid (fun d os => Calls.regrown_of (w := w6) (d := d) (os := os) (HH.out (grow (redrawn w6 d) os) (hlo d os)))
      have CR := hid (fun d os => Calls.regrown_of (w := w6) (d := d) (os := os) ((HrL.out (grow (redrawn w6 d) os) (hlo d os)).mono (fun e w' h => ⟨h.1, by rw [← h.2]; exact Below.refl _ _⟩)))
      obtain ⟨hb, hHB⟩ : ∃ hb : Bool, ((nf : Int) == x) = hb := ⟨_, rfl⟩
      rw [hHB] at CH
      clear HL HH HrL hlo k0 k1
      cases nb' with
      | false =>
        rw [Bool.false_and] at CH
        refine wp_region_quiet_below (by kernel_rfl) (by kernel_rfl) ?_
        iterate 51 (go_big_quiet_step (first | exact CL.out _ _ | exact CH.out _ _ | exact CR.out _ _))
        refine wpQuiet_nil ?_
        intro w7 hw7
        have hBf : Below w4.heap.size w4 w7 := by obtain ⟨⟨dq, oq⟩, rfl⟩ := hw7; exact hBe.trans ((below_regrown w6 dq oq).mono hze)
        clear hw7 hcg
        go_wp2_with fail
        go_roundw
        case rel => exact ⟨i + 1, by omega, by go_num, hBf⟩
        case measure => simp [intOf]; omega
      | true =>
        rw [Bool.true_and] at CH
        cases hb with
        | false =>
          refine wp_region_quiet_below (by kernel_rfl) (by kernel_rfl) ?_
          iterate 51 (go_big_quiet_step (first | exact CL.out _ _ | exact CH.out _ _ | exact CR.out _ _))
          refine wpQuiet_nil ?_
          intro w7 hw7
          have hBf : Below w4.heap.size w4 w7 := by obtain ⟨⟨dq, oq⟩, rfl⟩ := hw7; exact hBe.trans ((below_regrown w6 dq oq).mono hze)
          clear hw7 hcg
          go_wp2_with fail
          go_roundw
          case rel => exact ⟨i + 1, by omega, by go_num, hBf⟩
          case measure => simp [intOf]; omega
        | true =>
          refine wp_region_quiet_below (by kernel_rfl) (by kernel_rfl) ?_
          iterate 51 (go_big_quiet_step (first | exact CL.out _ _ | exact CH.out _ _ | exact CR.out _ _))
          refine wpQuiet_nil ?_
          intro w7 hw7
          have hBf : Below w4.heap.size w4 w7 := by obtain ⟨⟨dq, oq⟩, rfl⟩ := hw7; exact hBe.trans ((below_regrown w6 dq oq).mono hze)
          clear hw7 hcg
          go_wp2_with fail
          go_roundw
          case rel => exact ⟨i + 1, by omega, by go_num, hBf⟩
          case measure => simp [intOf]; omega
    · obtain rfl : i = ps.length := by omega
      have hki : ¬ ((ps.length : Int) < (ps.length : Int)) := by omega
      go_wp2_with fail
      go_ret
      exact ⟨rfl, hBc.trans (hB.mono hzc)⟩

theorem L.fewB_le {n : Nat} {B : Int} (h : fewB n B = true) : n ≤ 100 := by
  unfold fewB at h
  simp only [Bool.and_eq_true, decide_eq_true_eq] at h
  exact h.1

theorem lawFanoAsks_any (A : Option Addr) (c : Nat) (zs : List Int) (B : Int) (A2 : Option Addr) (c2 : Nat) (ps : List Int) (w : World) (hl : Lst w A (ints zs)) (hps : Lst w A2 (ints ps)) (hB : B ≤ 9223372036854775807) (hT : Tab w) :
    Calls Tryd.prog 6 #[.slice A zs.length c, .int .i64 B, .slice A2 ps.length c2] w fun e w' => e = .returned (.bool true) ∧ Below w.heap.size w w' := by
  rcases Nat.lt_or_ge 20 ps.length with h | h
  · exact lawFanoAsks_long A _ c B A2 _ c2 w h hT
  · cases hf : fewB zs.length B with
    | false => exact lawFanoAsks_many A _ c B A2 _ c2 w hB h hf hT
    | true =>
      by_cases hr : RightZ zs B
      · obtain ⟨l, b, rfl, rfl, hN, hlt⟩ := rightZ_nat hr
        rw [List.length_map] at hf ⊢
        rw [ints_nat] at hl
        exact lawFanoAsks_true A c l b A2 c2 ps w hl hps h hT hN hf
      · have := fewB_le hf
        exact lawFanoAsks_wrong A c zs B A2 _ c2 w hl (by omega) hB h hf hr hT

end Go.Proofs.YtlpnbkfcbamnbaaDoor

/- Plain: numbers that rise: a number's own place, next, the one ahead; between two numbers; few of right ones. -/

set_option linter.unusedVariables false
set_option linter.unusedSimpArgs false
namespace Go.Proofs.YtlpnbkfcbamnbaaDoor
open Go.RowKit L

theorem L.clz_self_le {l : List Nat} (h : Ris l) {i : Nat} (hi : i < l.length) : clz l (l[i] : Nat) ≤ i ∧ ∀ hj : clz l (l[i] : Nat) < l.length, l[clz l (l[i] : Nat)] = l[i] := by
  have e : clz l (l[i] : Nat) = cl l l[i] := by unfold clz; rw [Int.toNat_natCast]
  rw [e]
  have h1 : cl l l[i] ≤ i := by
    have := (cl_lt h (x := l[i]) hi).2
    rcases Nat.lt_or_ge i (cl l l[i]) with h' | h'
    · have := (cl_lt h (x := l[i]) hi).2 h'; omega
    · exact h'
  refine ⟨h1, fun hj => ?_⟩
  generalize hq : cl l l[i] = q at *
  have h2 := h.le (i := q) (j := i) h1 hi
  have h3 := (cl_lt h (x := l[i]) hj)
  rw [hq] at h3
  omega
theorem L.nxt_self {l : List Nat} (h : Ris l) {i : Nat} (hi : i < l.length) : nxt l (l[i] : Nat) = some l[i] := by
  obtain ⟨h1, h2⟩ := clz_self_le h hi
  have hj : clz l (l[i] : Nat) < l.length := by omega
  unfold nxt
  rw [List.getElem?_eq_getElem hj, h2 hj]
theorem L.prv_self {l : List Nat} (h : Ris l) {i : Nat} (hi : i < l.length) : prv l (l[i] : Nat) = some l[i] := by
  have e : clz l ((l[i] : Nat) + 1) = cl l (l[i] + 1) := by unfold clz; congr 1
  unfold prv
  rw [e]
  have h1 : i < cl l (l[i] + 1) := (cl_lt h (x := l[i] + 1) hi).1 (by omega)
  have hle := cl_le l (l[i] + 1)
  generalize hq : cl l (l[i] + 1) = q at *
  have hj : q - 1 < l.length := by omega
  rw [if_neg (by omega), List.getElem?_eq_getElem hj]
  have h2 := (cl_lt h (x := l[i] + 1) hj).2 (by omega)
  have h3 := h.le (i := i) (j := q - 1) (by omega) hj
  congr 1
  omega
theorem L.hasN_self {l : List Nat} (h : Ris l) {i : Nat} (hi : i < l.length) : hasN l (l[i] : Nat) = true := by
  unfold hasN; rw [nxt_self h hi]; simp
theorem L.clz_new {l : List Nat} (h : Ris l) {i : Nat} (hi : i < l.length) (h0 : i ≠ 0) (hne : l[i] ≠ l[i - 1]'(by omega)) : clz l (l[i] : Nat) = i := by
  refine L.clz_unique h (by omega) (fun j hj => ?_) (fun _ => Int.le_refl _)
  have h1 := h.le (i := j) (j := i - 1) (by omega) (by omega)
  have h2 := h.le (i := i - 1) (j := i) (by omega) hi
  omega
theorem L.clz_first {l : List Nat} (h : Ris l) (hi : 0 < l.length) : clz l (l[0] : Nat) = 0 :=
  L.clz_unique h (by omega) (fun j hj => by omega) (fun _ => Int.le_refl _)
/-- Where the likes of the number ahead begin. -/
def L.fst (l : List Nat) (i : Nat) : Nat := if i = 0 then 0 else clz l (l.getD (i - 1) 0 : Nat)
theorem L.fst_succ {l : List Nat} {i : Nat} (hi : i < l.length) : fst l (i + 1) = clz l (l[i] : Nat) := by
  unfold fst; rw [if_neg (by omega), Nat.add_sub_cancel, List.getD_eq_getElem?_getD, List.getElem?_eq_getElem hi]; rfl
theorem L.fst_same {l : List Nat} (h : Ris l) {i : Nat} (hi : i < l.length) (he : i = 0 ∨ l[i] = l[i - 1]'(by omega)) : fst l i = clz l (l[i] : Nat) := by
  unfold fst
  split
  · rename_i h0
    subst h0
    exact (clz_first h hi).symm
  · rename_i h0
    have e := he.resolve_left h0
    rw [List.getD_eq_getElem?_getD, List.getElem?_eq_getElem (by omega : i - 1 < l.length), e]; rfl
theorem L.fst_le {l : List Nat} (i : Nat) : fst l i ≤ l.length := by
  unfold fst
  split
  · omega
  · unfold clz; exact cl_le _ _

theorem L.clz_mono (l : List Nat) {x y : Int} (h : x ≤ y) : clz l x ≤ clz l y := by unfold clz; exact cl_mono l (by omega)
theorem L.clz_between (l : List Nat) {x y : Int} (h : x ≤ y) : clz l y = clz l x + l.countP (fun z : Nat => decide (x ≤ (z : Int)) && decide ((z : Int) < y)) := by
  rw [clz_count, clz_count]
  induction l with
  | nil => rfl
  | cons z l ih =>
    rw [List.countP_cons, List.countP_cons, List.countP_cons, ih]
    by_cases h1 : (z : Int) < x
    · simp only [decide_eq_true h1, decide_eq_true (show (z : Int) < y by omega), decide_eq_false (show ¬ x ≤ (z : Int) by omega), Bool.false_and]; simp; omega
    · simp only [decide_eq_false h1, decide_eq_true (show x ≤ (z : Int) by omega), Bool.true_and]
      by_cases h2 : (z : Int) < y
      · simp only [decide_eq_true h2]; simp; omega
      · simp only [decide_eq_false h2]; simp
theorem L.nxt_ge {l : List Nat} (h : Ris l) {x : Int} {y : Nat} (hy : nxt l x = some y) : x ≤ (y : Int) := by
  unfold nxt at hy
  obtain ⟨hj, rfl⟩ := List.getElem?_eq_some_iff.1 hy
  have := cl_lt h (x := x.toNat) hj
  unfold clz at this ⊢
  omega
theorem L.prv_le {l : List Nat} (h : Ris l) {x : Int} {y : Nat} (hy : prv l x = some y) : (y : Int) ≤ x := by
  unfold prv at hy
  split at hy
  · cases hy
  · rename_i h0
    obtain ⟨hj, rfl⟩ := List.getElem?_eq_some_iff.1 hy
    have := cl_lt h (x := (x + 1).toNat) hj
    unfold clz at this h0 ⊢
    omega
theorem L.nxt_prv {l : List Nat} {x : Int} (h0 : l.length ≠ 0) (h1 : nxt l x = none) (h2 : prv l x = none) : False := by
  unfold nxt at h1
  unfold prv at h2
  rw [List.getElem?_eq_none_iff] at h1
  have h3 := L.clz_mono l (show x ≤ x + 1 by omega)
  have h4 := clz_le l (x + 1)
  split at h2
  · omega
  · rw [List.getElem?_eq_none_iff] at h2; omega

theorem L.wd_few (n B : Nat) (h0 : 0 < n) (hB : B < 18446744073709551616) : B / 2 ^ wd n B < 2 * n := by
  unfold wd
  split
  · rename_i h
    rw [Nat.pow_zero, Nat.div_one]; omega
  · rename_i h
    have hq : 2 ≤ B / n := (Nat.le_div_iff_mul_le h0).2 (by omega)
    have hs := need_spec (B / n) (Nat.lt_of_le_of_lt (Nat.div_le_self _ _) hB)
    have hn : need (B / n) ≠ 0 := fun e => by rw [e] at hs; have := hs.1; simp at this; omega
    obtain ⟨k, hk⟩ : ∃ k, need (B / n) = k + 1 := ⟨need (B / n) - 1, by omega⟩
    have h1 := hs.1
    rw [hk, Nat.add_sub_cancel] at *
    rw [Nat.div_lt_iff_lt_mul (Nat.two_pow_pos _)]
    have h2 : B < n * 2 ^ (k + 1) := by
      have := (Nat.div_lt_iff_lt_mul h0).1 h1
      rw [Nat.mul_comm] at this; exact this
    rw [Nat.pow_succ] at h2
    calc B < n * (2 ^ k * 2) := h2
      _ = 2 * n * 2 ^ k := by rw [Nat.mul_comm (2 ^ k) 2, ← Nat.mul_assoc, Nat.mul_comm n 2]
/-- Right numbers, some, not too many: not too many bits. -/
theorem L.RightN.few {l : List Nat} {B : Nat} (hr : RightN l B) (h0 : 0 < l.length) (hn : l.length ≤ 10000) : Few l B := by
  refine ⟨hn, ?_⟩
  have h1 := wd_few l.length B h0 (by have := hr.1; omega)
  have h2 := Nat.div_le_div_right (c := 2 ^ wd l.length B) (show B - 1 ≤ B by omega)
  omega
theorem L.Ris.snoc {l : List Nat} (h : Ris l) {m : Nat} (hm : ∀ y ∈ l, y ≤ m) : Ris (l ++ [m]) := by
  unfold Ris at *
  rw [List.pairwise_append]
  exact ⟨h, List.pairwise_singleton _ _, fun a ha b hb => by rw [List.mem_singleton] at hb; subst hb; exact hm a ha⟩
theorem L.RightN.snoc {l : List Nat} {B m : Nat} (hr : RightN l B) (hm : ∀ y ∈ l, y ≤ m) (hB : m < B) : RightN (l ++ [m]) B :=
  ⟨hr.1, hr.2.1.snoc hm, fun x hx => by
    rcases List.mem_append.1 hx with h | h
    · exact hr.2.2 x h
    · rw [List.mem_singleton] at h; omega⟩
theorem L.clz_snoc {l : List Nat} {m : Nat} {x : Int} (h : x ≤ m) : clz (l ++ [m]) x = clz l x := by
  rw [clz_count, clz_count, List.countP_append, List.countP_singleton, decide_eq_false (by omega)]; rfl
theorem L.Ris.last {l : List Nat} (h : Ris l) (h0 : 0 < l.length) : ∀ y ∈ l, y ≤ l[l.length - 1] := by
  intro y hy
  obtain ⟨j, hj, rfl⟩ := List.mem_iff_getElem.1 hy
  exact h.le (by omega) (by omega)
theorem L.hasN_last {l : List Nat} {m : Nat} (h : Ris (l ++ [m])) : hasN (l ++ [m]) (m : Nat) = true := by
  have hi : l.length < (l ++ [m]).length := by simp
  have := hasN_self h hi
  rwa [show (l ++ [m])[l.length] = m by simp] at this

end Go.Proofs.YtlpnbkfcbamnbaaDoor
