/- The texts LawFano, LawFanoB, LawFanoC, LawFanoD, LawFanoE, FanoM, in one. -/
import Derived.Test.YtgpbpgpolpakjaaGreatDoorFanoQ
import Derived.Lib.QuietBelow
/- Walks: the reference's right numbers and width; few; awake of chapter 05. -/

set_option linter.unusedVariables false
set_option linter.unusedSimpArgs false
set_option maxRecDepth 100000
namespace Go.Proofs.YtgpbpgpolpakjaaGreatDoor
open Go.RowKit Go.Shelf L

def L.pv (zs : List Int) (i : Nat) : Int := if i = 0 then 0 else zs[i - 1]?.getD 0
theorem L.okFrom_step (p B : Int) (zs : List Int) (i : Nat) (h : i < zs.length) : okFrom p B (zs.drop i) = (decide (p ≤ zs[i]) && decide (zs[i] < B) && okFrom zs[i] B (zs.drop (i + 1))) := by
  rw [List.drop_eq_getElem_cons h]; rfl
theorem L.pv_succ (zs : List Int) (i : Nat) (h : i < zs.length) : pv zs (i + 1) = zs[i] := by unfold pv; rw [if_neg (by omega), Nat.add_sub_cancel, List.getElem?_eq_getElem h]; rfl

set_option maxHeartbeats 4000000 in
theorem refRight_any (A : Option Addr) (c : Nat) (zs : List Int) (B : Int) (w : World) (hl : Lst w A (ints zs)) (hn : zs.length ≤ 1000000) :
    Calls Tryz.prog 44 #[.slice A zs.length c, .int .i64 B] w fun e w' => ∃ ok m, e = .returned (.bool ok) ∧ w' = w.drewN m ∧ (ok = true ↔ RightZ zs B) := by
  go_enter Tryz.func44, Tryz.ntmps44
  go_wp2_with fail
  go_loopw [5] (fun iv wr => ∃ (i m : Nat), iv = .int .i64 (i : Nat) ∧ wr = w.drewN m ∧ i ≤ zs.length ∧ okFrom 0 B zs = okFrom (pv zs i) B (zs.drop i) ∧ 0 ≤ pv zs i) (fun iv _ => zs.length - (intOf iv).toNat)
  case atStart => exact ⟨0, 0, rfl, rfl, by omega, rfl, Int.le_refl _⟩
  case round =>
    obtain ⟨i, m, rfl, rfl, hi, hok, hp0⟩ := hrel
    have HOK := hid hok
    clear hok
    rcases Nat.lt_or_ge i zs.length with hlt | hge
    · have hii : (i : Int) < (zs.length : Int) := by omega
      have hi0 : (0 : Int) ≤ (i : Int) := by omega
      have hiW := wrap_one i (by omega)
      obtain ⟨g, o, rfl, _, hc⟩ := hl.lit (by unfold ints; rw [List.length_map]; omega)
      have hcell := hc i (.int .i64 zs[i]) (by unfold ints; rw [List.getElem?_map, List.getElem?_eq_getElem hlt]; rfl)
      have HD := hid (okFrom_step (pv zs i) B zs i hlt)
      have HS := hid (pv_succ zs i hlt)
      have HP := hid hp0
      have HN := hid (show ¬ (pv zs i ≤ zs[i] ∧ zs[i] < B) → ¬ RightZ zs B from fun hh h => by
        have := h.2
        rw [HOK.out, HD.out] at this
        simp only [Bool.and_eq_true, decide_eq_true_eq] at this
        exact hh this.1)
      have HR := hid (show (pv zs i ≤ zs[i] ∧ zs[i] < B) → okFrom 0 B zs = okFrom (pv zs (i + 1)) B (zs.drop (i + 1)) ∧ 0 ≤ pv zs (i + 1) from fun hh => by
        rw [HS.out, HOK.out, HD.out, decide_eq_true hh.1, decide_eq_true hh.2]
        exact ⟨rfl, by have := HP.out; omega⟩)
      clear HOK HD HS
      by_cases h0 : zs[i] < 0
      · have HF := hid (HN.out (by have := HP.out; omega))
        clear HN HR HP hp0 hc
        generalize zs[i] = x at *
        have k0 : decide (x < 0) = true := decide_eq_true h0
        go_wp2_with fail
        go_quiet (fail)
        go_wp2_with fail
        go_ret
        first | exact ⟨false, _, rfl, rfl, (fun h => by cases h), (fun h => absurd h HF.out)⟩ | exact Or.inl ⟨rfl, ⟨_, rfl⟩, HF.out⟩ | exact ⟨false, m + nq, rfl, (by first | rfl | simp [World.drewN_drewN]), (fun h => by cases h), (fun h => absurd h HF.out)⟩
      · have k0 : decide (zs[i] < 0) = false := decide_eq_false h0
        by_cases h1 : B ≤ zs[i]
        · have HF := hid (HN.out (by omega))
          clear HN HR HP hp0 hc
          generalize zs[i] = x at *
          have k1 : decide (x ≥ B) = true := decide_eq_true h1
          go_wp2_with fail
          go_quiet (fail)
          go_wp2_with fail
          go_ret
          first | exact ⟨false, _, rfl, rfl, (fun h => by cases h), (fun h => absurd h HF.out)⟩ | exact Or.inl ⟨rfl, ⟨_, rfl⟩, HF.out⟩ | exact ⟨false, m + nq, rfl, (by first | rfl | simp [World.drewN_drewN]), (fun h => by cases h), (fun h => absurd h HF.out)⟩
        · have k1 : decide (zs[i] ≥ B) = false := decide_eq_false h1
          by_cases hz : i = 0
          · have k2 : decide ((i : Int) > 0) = false := decide_eq_false (by omega)
            have HF := hid (HR.out ⟨by unfold pv; rw [if_pos hz]; omega, by omega⟩)
            clear HN HR HP hp0 hc
            generalize zs[i] = x at *
            have k2N : ¬ 0 < i := by omega
            have k2J : ¬ ((i : Int) > 0) := by omega
            have k2K : (i : Int) ≤ 0 := by omega
            clear hz
            go_wp2_with fail
            go_quiet (fail)
            go_wp2_with fail
            go_roundw
            case rel => exact ⟨i + 1, m + nq, by go_num, by simp, by omega, HF.out⟩
            case measure => simp [intOf]; omega
          · have k2 : decide ((i : Int) > 0) = true := decide_eq_true (by omega)
            have hj : i - 1 < zs.length := by omega
            have hcell2 := hc (i - 1) (.int .i64 zs[i - 1]) (by unfold ints; rw [List.getElem?_map, List.getElem?_eq_getElem hj]; rfl)
            have hpv : pv zs i = zs[i - 1] := by unfold pv; rw [if_neg hz, List.getElem?_eq_getElem hj]; rfl
            rw [hpv] at HN HR
            clear hpv
            generalize hjj : i - 1 = j at *
            have hjI : (i : Int) - 1 = (j : Int) := by omega
            have hj0 : (0 : Int) ≤ (j : Int) := by omega
            have hjlt : (j : Int) < (zs.length : Int) := by omega
            have hjlt2 : j < zs.length := by omega
            have k2N : 0 < i := by omega
            clear hjj HP hp0 hc
            by_cases h2 : zs[i] < zs[j]
            · have HF := hid (HN.out (by omega))
              clear HN HR
              have k3 : decide (zs[i] < zs[j]) = true := decide_eq_true h2
              generalize zs[i] = x at *
              generalize zs[j] = y at *
              go_wp2_with fail
              go_quiet (fail)
              go_wp2_with fail
              go_ret
              first | exact ⟨false, _, rfl, rfl, (fun h => by cases h), (fun h => absurd h HF.out)⟩ | exact Or.inl ⟨rfl, ⟨_, rfl⟩, HF.out⟩ | exact ⟨false, m + nq, rfl, (by first | rfl | simp [World.drewN_drewN]), (fun h => by cases h), (fun h => absurd h HF.out)⟩
            · have HF := hid (HR.out (by omega))
              clear HN HR
              have k3 : decide (zs[i] < zs[j]) = false := decide_eq_false h2
              generalize zs[i] = x at *
              generalize zs[j] = y at *
              go_wp2_with fail
              go_quiet (fail)
              go_wp2_with fail
              go_roundw
              case rel => exact ⟨i + 1, m + nq, by go_num, by simp, by omega, HF.out⟩
              case measure => simp [intOf]; omega
    · obtain rfl : i = zs.length := by omega
      have HT := hid (show okFrom 0 B zs = true by rw [HOK.out, List.drop_length]; rfl)
      clear HOK hp0
      have k3 : decide ((zs.length : Int) < 16777216) = true := by apply decide_eq_true; omega
      have k3N : zs.length < 16777216 := by omega
      by_cases h1 : 1 ≤ B
      · have k1 : decide (B ≥ 1) = true := decide_eq_true h1
        by_cases h2 : B ≤ 1099511627776
        · have k2 : decide (B ≤ 1099511627776) = true := decide_eq_true h2
          have HN := hid (show RightZ zs B from ⟨⟨h1, h2, k3N⟩, HT.out⟩)
          go_wp2_with fail
          go_ret
          first | exact ⟨true, _, rfl, rfl, (fun _ => HN.out), (fun _ => rfl)⟩ | exact Or.inr ⟨rfl, ⟨_, rfl⟩, HN.out⟩
        · have k2 : decide (B ≤ 1099511627776) = false := decide_eq_false h2
          have HF := hid (show ¬ RightZ zs B from fun h => h2 h.1.2.1)
          go_wp2_with fail
          go_ret
          first | exact ⟨false, _, rfl, rfl, (fun h => by cases h), (fun h => absurd h HF.out)⟩ | exact Or.inl ⟨rfl, ⟨_, rfl⟩, HF.out⟩ | exact ⟨false, m + nq, rfl, (by first | rfl | simp [World.drewN_drewN]), (fun h => by cases h), (fun h => absurd h HF.out)⟩
      · have k1 : decide (B ≥ 1) = false := decide_eq_false h1
        have HF := hid (show ¬ RightZ zs B from fun h => h1 h.1.1)
        go_wp2_with fail
        go_ret
        first | exact ⟨false, _, rfl, rfl, (fun h => by cases h), (fun h => absurd h HF.out)⟩ | exact Or.inl ⟨rfl, ⟨_, rfl⟩, HF.out⟩ | exact ⟨false, m + nq, rfl, (by first | rfl | simp [World.drewN_drewN]), (fun h => by cases h), (fun h => absurd h HF.out)⟩

end Go.Proofs.YtgpbpgpolpakjaaGreatDoor

/- Walks: the reference's width; few; awake of chapter 05. -/

set_option linter.unusedVariables false
set_option linter.unusedSimpArgs false
set_option maxRecDepth 100000
namespace Go.Proofs.YtgpbpgpolpakjaaGreatDoor
open Go.RowKit Go.Shelf L

theorem L.need_half (q : Nat) (h : 2 ≤ q) (hq : q < 18446744073709551616) : need q = need (q / 2) + 1 := by
  have h1 := need_spec q hq
  have h2 := need_spec (q / 2) (by omega)
  have h3 : need (q / 2) ≠ 0 := fun e => by rw [e] at h2; have := h2.1; simp at this; omega
  have h4 := h2.2.1 h3
  obtain ⟨k, hk⟩ : ∃ k, need (q / 2) = k + 1 := ⟨need (q / 2) - 1, by omega⟩
  refine need_unique (x := q) h1.1 h1.2.1 ?_ (fun _ => ?_)
  · have := h2.1
    rw [Nat.pow_succ]; omega
  · rw [Nat.add_sub_cancel, hk, Nat.pow_succ]
    rw [hk, Nat.add_sub_cancel] at h4
    omega
theorem L.need_one : need 1 = 1 := need_unique (x := 1) (need_spec 1 (by decide)).1 (need_spec 1 (by decide)).2.1 (by decide) (by decide)

set_option maxHeartbeats 1000000 in
theorem refWidth_any (n : Nat) (B : Int) (w : World) (hn : n ≤ 16777216) (hB : B ≤ 9223372036854775807) :
    Calls Tryz.prog 43 #[.int .i64 (n : Nat), .int .i64 B] w fun e w' => e = .returned (.int .i64 (wd n B.toNat : Nat)) ∧ w = w' := by
  rcases Nat.eq_zero_or_pos n with h0 | h0
  · have g0 : ((n : Int) == 0) = true := by rw [beq_iff_eq]; omega
    have HW := hid (show wd n B.toNat = 0 by unfold wd; rw [if_pos (Or.inl h0)])
    clear h0
    go_enter Tryz.func43, Tryz.ntmps43
    go_wp2_with fail
    go_ret
    exact ⟨by rw [HW.out]; rfl, rfl⟩
  · have g0 : ((n : Int) == 0) = false := by rw [beq_eq_false_iff_ne]; omega
    have hnw : IntKind.i64.wrap (2 * (n : Int)) = 2 * (n : Int) := by rw [IntKind.wrap_i64]; omega
    by_cases h2 : B < 2 * (n : Int)
    · have g1 : decide (B < 2 * (n : Int)) = true := decide_eq_true h2
      have HW := hid (show wd n B.toNat = 0 by unfold wd; rw [if_pos (Or.inr (by omega))])
      clear h2
      go_enter Tryz.func43, Tryz.ntmps43
      go_wp2_with fail
      go_ret
      exact ⟨by rw [HW.out]; rfl, rfl⟩
    · have g1 : decide (B < 2 * (n : Int)) = false := decide_eq_false h2
      obtain ⟨b, rfl⟩ := Int.eq_ofNat_of_zero_le (show 0 ≤ B by omega)
      have HW := hid (show wd n b = need (b / n) - 1 by unfold wd; rw [if_neg (by omega)])
      have hq2 : 2 ≤ b / n := (Nat.le_div_iff_mul_le h0).2 (by omega)
      have hqB : b / n ≤ b := Nat.div_le_self _ _
      obtain ⟨q0, hq⟩ : ∃ q, q = b / n := ⟨_, rfl⟩
      have hqI : (b : Int) / (n : Int) = (q0 : Int) := by rw [hq]; simp
      have hqT : (b : Int).tdiv (n : Int) = (q0 : Int) := by rw [Int.tdiv_eq_ediv_of_nonneg (by omega)]; exact hqI
      rw [← hq] at HW hq2 hqB
      have hqW : IntKind.i64.wrap (q0 : Int) = (q0 : Int) := by rw [IntKind.wrap_i64]; omega
      have hnp := (need_spec q0 (by omega)).2.2
      clear hq h2
      go_enter Tryz.func43, Tryz.ntmps43
      go_wp2_with fail
      go_loop [5, 6] (fun v u => ∃ (a q : Nat), v = .int .i64 (a : Nat) ∧ u = .int .i64 (q : Nat) ∧ 1 ≤ q ∧ q ≤ q0 ∧ need q + a = need q0) (fun _ u => (intOf u).toNat)
      case atStart => exact ⟨0, q0, rfl, rfl, by omega, Nat.le_refl _, rfl⟩
      case round =>
        obtain ⟨a, q, rfl, rfl, h1, hqq, hna⟩ := hrel
        rcases Nat.lt_or_ge 1 q with h | h
        · have d1 : decide ((q : Int) > 1) = true := decide_eq_true (by omega)
          have hd : (q : Int) / 2 = ((q / 2 : Nat) : Int) := by omega
          have ht : (q : Int).tdiv 2 = ((q / 2 : Nat) : Int) := by rw [Int.tdiv_eq_ediv_of_nonneg (by omega)]; exact hd
          have hdw : IntKind.i64.wrap ((q / 2 : Nat) : Int) = ((q / 2 : Nat) : Int) := by rw [IntKind.wrap_i64]; omega
          have haw : IntKind.i64.wrap ((a : Int) + 1) = (a : Int) + 1 := by rw [IntKind.wrap_i64]; omega
          have hr : need (q / 2) + (a + 1) = need q0 := by have := L.need_half q (by omega) (by omega); omega
          have hb1 : 1 ≤ q / 2 := by omega
          have hb2 : q / 2 < q := by omega
          generalize q / 2 = r at *
          go_wp2_with fail
          go_round
          case rel => exact ⟨a + 1, r, by go_num, by first | rfl | go_num, hb1, by omega, hr⟩
          case measure => simp [intOf]; omega
        · obtain rfl : q = 1 := by omega
          rw [L.need_one] at hna
          have ha : a = need q0 - 1 := by omega
          have HA := hid ha
          clear ha hna h
          go_wp2_with fail
          go_ret
          exact ⟨by first | (rw [HW.out, ← HA.out]; rfl) | (rw [Int.toNat_natCast, HW.out, ← HA.out]; rfl), rfl⟩

end Go.Proofs.YtgpbpgpolpakjaaGreatDoor

/- Walks: the law FanoMakes returns true. -/

set_option linter.unusedVariables false
set_option linter.unusedSimpArgs false
set_option maxRecDepth 100000
namespace Go.Proofs.YtgpbpgpolpakjaaGreatDoor
open Go.RowKit Go.Shelf L

end Go.Proofs.YtgpbpgpolpakjaaGreatDoor

/- Walks: the reference's less, next, and the one ahead. -/

set_option linter.unusedVariables false
set_option linter.unusedSimpArgs false
set_option maxRecDepth 100000
namespace Go.Proofs.YtgpbpgpolpakjaaGreatDoor
open Go.RowKit Go.Shelf L

end Go.Proofs.YtgpbpgpolpakjaaGreatDoor

/- Walks: the law FanoAsks returns true. -/


set_option linter.unusedVariables false
set_option linter.unusedSimpArgs false
set_option maxRecDepth 100000
namespace Go.Proofs.YtgpbpgpolpakjaaGreatDoor
open Go.RowKit Go.Shelf L Go.Sort

end Go.Proofs.YtgpbpgpolpakjaaGreatDoor

/- Plain: numbers that rise: a number's own place, next, the one ahead; between two numbers; few of right ones. -/

set_option linter.unusedVariables false
set_option linter.unusedSimpArgs false
namespace Go.Proofs.YtgpbpgpolpakjaaGreatDoor
open Go.RowKit L

theorem L.wd_few (n B : Nat) (h0 : 0 < n) (hB : B < 18446744073709551616) : B / 2 ^ wd n B < 2 * n := by
  unfold wd
  split
  · rename_i h
    rw [Nat.pow_zero, Nat.div_one]; omega
  · rename_i h
    have hq : 2 ≤ B / n := (Nat.le_div_iff_mul_le h0).2 (by omega)
    have hs := need_spec (B / n) (Nat.lt_of_le_of_lt (Nat.div_le_self _ _) hB)
    have hn : need (B / n) ≠ 0 := fun e => by rw [e] at hs; have := hs.1; simp at this; omega
    obtain ⟨k, hk⟩ : ∃ k, need (B / n) = k + 1 := ⟨need (B / n) - 1, by omega⟩
    have h1 := hs.1
    rw [hk, Nat.add_sub_cancel] at *
    rw [Nat.div_lt_iff_lt_mul (Nat.two_pow_pos _)]
    have h2 : B < n * 2 ^ (k + 1) := by
      have := (Nat.div_lt_iff_lt_mul h0).1 h1
      rw [Nat.mul_comm] at this; exact this
    rw [Nat.pow_succ] at h2
    calc B < n * (2 ^ k * 2) := h2
      _ = 2 * n * 2 ^ k := by rw [Nat.mul_comm (2 ^ k) 2, ← Nat.mul_assoc, Nat.mul_comm n 2]
/-- Right numbers, some, not too many: not too many bits. -/
theorem L.RightN.few {l : List Nat} {B : Nat} (hr : RightN l B) (h0 : 0 < l.length) (hn : l.length ≤ 10000) : Few l B := by
  refine ⟨by omega, ?_⟩
  have h1 := wd_few l.length B h0 (by have := hr.1; omega)
  have h2 := Nat.div_le_div_right (c := 2 ^ wd l.length B) (show B - 1 ≤ B by omega)
  omega
theorem L.Ris.last {l : List Nat} (h : Ris l) (h0 : 0 < l.length) : ∀ y ∈ l, y ≤ l[l.length - 1] := by
  intro y hy
  obtain ⟨j, hj, rfl⟩ := List.mem_iff_getElem.1 hy
  exact h.le (by omega) (by omega)
end Go.Proofs.YtgpbpgpolpakjaaGreatDoor
