/- Walks: numbers that rise: the width, the high row's length, which numbers are right; how a row is put. -/
import Derived.Test.YtlpnbkfcbamnbaaDoorBitsI
import Derived.Test.YtlpnbkfcbamnbaaDoorMathF
import Derived.Test.YtlpnbkfcbamnbaaDoorSupB
set_option linter.unusedVariables false
set_option linter.unusedSimpArgs false
set_option maxRecDepth 100000
namespace Go.Proofs.YtlpnbkfcbamnbaaDoor
open Go.RowKit Go.Shelf L

theorem wrap_one (k : Nat) (h : k ≤ 4294967296) : IntKind.i64.wrap ((k : Int) + 1) = (k : Int) + 1 := by rw [IntKind.wrap_i64]; omega
theorem wrap_less (k : Nat) (h : k ≤ 4294967296) : IntKind.i64.wrap ((k : Int) - 1) = (k : Int) - 1 := by rw [IntKind.wrap_i64]; omega
/-- How many bits are low ones. -/
def L.wd (n B : Nat) : Nat := if n = 0 ∨ B < 2 * n then 0 else need (B / n) - 1

theorem wd_le (n B : Nat) (hB : B ≤ 1099511627776) : wd n B ≤ 40 := by
  unfold wd
  split
  · omega
  · rename_i h
    have hq : B / n < 2 ^ 41 := Nat.lt_of_le_of_lt (Nat.div_le_self _ _) (by omega)
    have := (need_le_iff (B / n) 41 (by omega)).2 hq
    omega

set_option maxHeartbeats 1000000 in
theorem width_any (n B : Nat) (w : World) (hn : n ≤ 16777216) (hB : B ≤ 1099511627776) :
    Calls Tryd.prog 55 #[.int .i64 (n : Nat), .int .i64 (B : Nat)] w fun e w' => e = .returned (.int .i64 (wd n B : Nat)) ∧ w = w' := by
  rcases Nat.eq_zero_or_pos n with h0 | h0
  · have g0 : ((n : Int) == 0) = true := by rw [beq_iff_eq]; omega
    have HW := hid (show wd n B = 0 by unfold wd; rw [if_pos (Or.inl h0)])
    clear h0
    go_enter Tryd.func55, Tryd.ntmps55
    go_wp2_with fail
    go_ret
    exact ⟨by rw [HW.out]; rfl, rfl⟩
  · have g0 : ((n : Int) == 0) = false := by rw [beq_eq_false_iff_ne]; omega
    by_cases h2 : B < 2 * n
    · have g1 : decide ((B : Int) < 2 * (n : Int)) = true := decide_eq_true (by omega)
      have HW := hid (show wd n B = 0 by unfold wd; rw [if_pos (Or.inr h2)])
      clear h2
      go_enter Tryd.func55, Tryd.ntmps55
      go_wp2_with fail
      go_ret
      exact ⟨by rw [HW.out]; rfl, rfl⟩
    · have g1 : decide ((B : Int) < 2 * (n : Int)) = false := decide_eq_false (by omega)
      have HW := hid (show wd n B = need (B / n) - 1 by unfold wd; rw [if_neg (by omega)])
      have hq2 : 2 ≤ B / n := (Nat.le_div_iff_mul_le h0).2 (by omega)
      have hqB : B / n ≤ B := Nat.div_le_self _ _
      obtain ⟨q, hq⟩ : ∃ q, q = B / n := ⟨_, rfl⟩
      have hqI : (B : Int) / (n : Int) = (q : Int) := by rw [hq]; simp
      have hqT : (B : Int).tdiv (n : Int) = (q : Int) := by rw [Int.tdiv_eq_ediv_of_nonneg (by omega)]; exact hqI
      rw [← hq] at HW hq2 hqB
      have hqW : IntKind.u64.wrap (q : Int) = (q : Int) := by rw [IntKind.wrap_u64]; omega
      have HN := hid (fun W => wneed_any q W (by omega))
      have hnp := (need_spec q (by omega))
      have hn1 : 1 ≤ need q := by
        rcases Nat.eq_zero_or_pos (need q) with h | h
        · rw [h] at hnp; have := hnp.1; simp at this; omega
        · exact h
      have hnI : ((need q : Nat) : Int) - 1 = ((need q - 1 : Nat) : Int) := by omega
      have HNI := hid hnI
      have hn64 := hnp.2.2
      clear hq hnp hnI h2
      generalize need q = nq at *
      go_enter Tryd.func55, Tryd.ntmps55
      go_wp2_with fail
      (with_reducible refine (HN.out _).mono ?_)
      rintro e w' ⟨rfl, rfl⟩
      go_wp2_with fail
      go_ret
      exact ⟨by rw [HW.out, ← HNI.out]; rfl, rfl⟩

set_option maxHeartbeats 1000000 in
theorem highBits_any (n B wdt : Nat) (w : World) (hn : n ≤ 16777216) (h1 : 1 ≤ B) (hB : B ≤ 1099511627776) (hw : wdt ≤ 40) :
    Calls Tryd.prog 59 #[.int .i64 (n : Nat), .int .i64 (B : Nat), .int .i64 (wdt : Nat)] w fun e w' => e = .returned (.int .i64 (n + (B - 1) / 2 ^ wdt + 1 : Nat)) ∧ w = w' := by
  obtain ⟨q, hq⟩ : ∃ q, q = (B - 1) / 2 ^ wdt := ⟨_, rfl⟩
  have hqB : q ≤ B - 1 := by rw [hq]; exact Nat.div_le_self _ _
  have hqI : ((B : Int) - 1) / 2 ^ wdt = (q : Int) := by
    rw [hq, show (B : Int) - 1 = ((B - 1 : Nat) : Int) from by omega]; norm_cast
  have hB1 : IntKind.i64.wrap ((B : Int) - 1) = (B : Int) - 1 := by rw [IntKind.wrap_i64]; omega
  rw [← hq]
  clear hq
  go_enter Tryd.func59, Tryd.ntmps59
  go_wp2_with fail
  go_ret
  exact ⟨by go_num, rfl⟩

/-- From a least number on the numbers rise, all less than a bound. -/
def L.okFrom (last B : Int) : List Int → Bool
  | [] => true
  | x :: l => decide (last ≤ x) && decide (x < B) && okFrom x B l
def L.RightZ (zs : List Int) (B : Int) : Prop := (1 ≤ B ∧ B ≤ 1099511627776 ∧ zs.length < 16777216) ∧ okFrom 0 B zs = true
def ints (zs : List Int) : List Value := zs.map (Value.int .i64)

set_option maxHeartbeats 2000000 in
theorem right_any (A : Option Addr) (c : Nat) (zs : List Int) (B : Int) (w : World) (hl : Lst w A (ints zs)) (hn : zs.length ≤ 1000000) :
    Calls Tryd.prog 54 #[.slice A zs.length c, .int .i64 B] w fun e w' => ∃ ok, e = .returned (.bool ok) ∧ w = w' ∧ (ok = true ↔ RightZ zs B) := by
  by_cases hb : B < 1 ∨ 1099511627776 < B
  · have HN := hid (show ¬ RightZ zs B from fun h => by have := h.1; omega)
    by_cases h1 : B < 1
    · have g1 : decide (B < 1) = true := decide_eq_true h1
      go_enter Tryd.func54, Tryd.ntmps54
      go_wp2_with fail
      go_ret
      first | exact ⟨false, rfl, rfl, (fun h => by cases h), (fun h => absurd h HN.out)⟩ | exact Or.inl ⟨rfl, rfl, HN.out⟩
    · have g1 : decide (B < 1) = false := decide_eq_false h1
      have g2 : decide (B > 1099511627776) = true := decide_eq_true (by omega)
      go_enter Tryd.func54, Tryd.ntmps54
      go_wp2_with fail
      go_ret
      first | exact ⟨false, rfl, rfl, (fun h => by cases h), (fun h => absurd h HN.out)⟩ | exact Or.inl ⟨rfl, rfl, HN.out⟩
  · have g1 : decide (B < 1) = false := decide_eq_false (by omega)
    have g2 : decide (B > 1099511627776) = false := decide_eq_false (by omega)
    have g3 : decide ((zs.length : Int) > 16777215) = false := decide_eq_false (by omega)
    have g3N : ¬ (16777215 < zs.length) := by omega
    have HB := hid (show (1 ≤ B ∧ B ≤ 1099511627776 ∧ zs.length < 16777216) by omega)
    have g1N : ¬ (B < 1) := by omega
    clear hb
    go_enter Tryd.func54, Tryd.ntmps54
    go_wp2_with fail
    go_loop [5, 21] (fun lv iv => ∃ (last : Int) (i : Nat), lv = .int .i64 last ∧ iv = .int .i64 (i : Nat) ∧ i ≤ zs.length ∧ (okFrom 0 B zs = okFrom last B (zs.drop i))) (fun _ iv => zs.length - (intOf iv).toNat)
    case atStart => exact ⟨0, 0, rfl, rfl, by omega, rfl⟩
    case round =>
      obtain ⟨last, i, rfl, rfl, hi, hok⟩ := hrel
      have HOK := hid hok
      clear hok
      rcases Nat.lt_or_ge i zs.length with hlt | hge
      · have hii : (i : Int) < (zs.length : Int) := by omega
        have hii2 : decide ((i : Int) < (zs.length : Int)) = true := decide_eq_true hii
        have hi0 : (0 : Int) ≤ (i : Int) := by omega
        have hiW := wrap_one i (by omega)
        obtain ⟨g, o, rfl, _, hc⟩ := hl.lit (by unfold ints; rw [List.length_map]; omega)
        have hcell := hc i (.int .i64 zs[i]) (by unfold ints; rw [List.getElem?_map, List.getElem?_eq_getElem hlt]; rfl)
        have HD := hid (show okFrom last B (zs.drop i) = (decide (last ≤ zs[i]) && decide (zs[i] < B) && okFrom zs[i] B (zs.drop (i + 1))) by rw [List.drop_eq_getElem_cons hlt]; rfl)
        generalize zs[i] = x at *
        clear hc
        by_cases h1 : last ≤ x
        · by_cases h2 : x < B
          · have k1 : decide (x < last) = false := decide_eq_false (by omega)
            have k2 : decide (x ≥ B) = false := decide_eq_false (by omega)
            have HN := hid (show okFrom 0 B zs = okFrom x B (zs.drop (i + 1)) by rw [HOK.out, HD.out, decide_eq_true h1, decide_eq_true h2]; rfl)
            clear h1 h2
            go_wp2_with fail
            go_round
            case rel => exact ⟨x, i + 1, rfl, by go_num, by omega, HN.out⟩
            case measure => simp [intOf]; omega
          · have k1 : decide (x < last) = false := decide_eq_false (by omega)
            have k2 : decide (x ≥ B) = true := decide_eq_true (by omega)
            have HN := hid (show ¬ RightZ zs B from fun h => by have := h.2; rw [HOK.out, HD.out, decide_eq_false h2] at this; simp at this)
            clear h1 h2
            go_wp2_with fail
            go_ret
            first | exact ⟨false, rfl, rfl, (fun h => by cases h), (fun h => absurd h HN.out)⟩ | exact Or.inl ⟨rfl, rfl, HN.out⟩
        · have k1 : decide (x < last) = true := decide_eq_true (by omega)
          have HN := hid (show ¬ RightZ zs B from fun h => by have := h.2; rw [HOK.out, HD.out, decide_eq_false h1] at this; simp at this)
          clear h1
          go_wp2_with fail
          go_ret
          first | exact ⟨false, rfl, rfl, (fun h => by cases h), (fun h => absurd h HN.out)⟩ | exact Or.inl ⟨rfl, rfl, HN.out⟩
      · obtain rfl : i = zs.length := by omega
        have HN := hid (show RightZ zs B from ⟨HB.out, by rw [HOK.out, List.drop_length]; rfl⟩)
        go_wp2_with fail
        go_ret
        first | exact ⟨true, rfl, rfl, (fun _ => HN.out), (fun _ => rfl)⟩ | exact Or.inr ⟨rfl, rfl, HN.out⟩

end Go.Proofs.YtlpnbkfcbamnbaaDoor
