/- The texts LawFano, LawFanoB, LawFanoC, LawFanoD, LawFanoE, FanoM, in one. -/
import Derived.Test.YtacllonekidocaaGreatDoorFanoQ
import Derived.Lib.QuietBelow
/- Walks: the reference's right numbers and width; few; awake of chapter 05. -/

set_option linter.unusedVariables false
set_option linter.unusedSimpArgs false
set_option maxRecDepth 100000
namespace Go.Proofs.YtacllonekidocaaGreatDoor
open Go.RowKit Go.Shelf L

def L.pv (zs : List Int) (i : Nat) : Int := if i = 0 then 0 else zs[i - 1]?.getD 0
theorem L.okFrom_step (p B : Int) (zs : List Int) (i : Nat) (h : i < zs.length) : okFrom p B (zs.drop i) = (decide (p ≤ zs[i]) && decide (zs[i] < B) && okFrom zs[i] B (zs.drop (i + 1))) := by
  rw [List.drop_eq_getElem_cons h]; rfl
theorem L.pv_succ (zs : List Int) (i : Nat) (h : i < zs.length) : pv zs (i + 1) = zs[i] := by unfold pv; rw [if_neg (by omega), Nat.add_sub_cancel, List.getElem?_eq_getElem h]; rfl

set_option maxHeartbeats 4000000 in
theorem refRight_any (A : Option Addr) (c : Nat) (zs : List Int) (B : Int) (w : World) (hl : Lst w A (ints zs)) (hn : zs.length ≤ 1000000) :
    Calls Tryz.prog 49 #[.slice A zs.length c, .int .i64 B] w fun e w' => ∃ ok m, e = .returned (.bool ok) ∧ w' = w.drewN m ∧ (ok = true ↔ RightZ zs B) := by
  go_enter Tryz.func49, Tryz.ntmps49
  go_wp2_with fail
  go_loopw [5] (fun iv wr => ∃ (i m : Nat), iv = .int .i64 (i : Nat) ∧ wr = w.drewN m ∧ i ≤ zs.length ∧ okFrom 0 B zs = okFrom (pv zs i) B (zs.drop i) ∧ 0 ≤ pv zs i) (fun iv _ => zs.length - (intOf iv).toNat)
  case atStart => exact ⟨0, 0, rfl, rfl, by omega, rfl, Int.le_refl _⟩
  case round =>
    obtain ⟨i, m, rfl, rfl, hi, hok, hp0⟩ := hrel
    have HOK := hid hok
    clear hok
    rcases Nat.lt_or_ge i zs.length with hlt | hge
    · have hii : (i : Int) < (zs.length : Int) := by omega
      have hi0 : (0 : Int) ≤ (i : Int) := by omega
      have hiW := wrap_one i (by omega)
      obtain ⟨g, o, rfl, _, hc⟩ := hl.lit (by unfold ints; rw [List.length_map]; omega)
      have hcell := hc i (.int .i64 zs[i]) (by unfold ints; rw [List.getElem?_map, List.getElem?_eq_getElem hlt]; rfl)
      have HD := hid (okFrom_step (pv zs i) B zs i hlt)
      have HS := hid (pv_succ zs i hlt)
      have HP := hid hp0
      have HN := hid (show ¬ (pv zs i ≤ zs[i] ∧ zs[i] < B) → ¬ RightZ zs B from fun hh h => by
        have := h.2
        rw [HOK.out, HD.out] at this
        simp only [Bool.and_eq_true, decide_eq_true_eq] at this
        exact hh this.1)
      have HR := hid (show (pv zs i ≤ zs[i] ∧ zs[i] < B) → okFrom 0 B zs = okFrom (pv zs (i + 1)) B (zs.drop (i + 1)) ∧ 0 ≤ pv zs (i + 1) from fun hh => by
        rw [HS.out, HOK.out, HD.out, decide_eq_true hh.1, decide_eq_true hh.2]
        exact ⟨rfl, by have := HP.out; omega⟩)
      clear HOK HD HS
      by_cases h0 : zs[i] < 0
      · have HF := hid (HN.out (by have := HP.out; omega))
        clear HN HR HP hp0 hc
        generalize zs[i] = x at *
        have k0 : decide (x < 0) = true := decide_eq_true h0
        go_wp2_with fail
        go_quiet (fail)
        go_wp2_with fail
        go_ret
        first | exact ⟨false, _, rfl, rfl, (fun h => by cases h), (fun h => absurd h HF.out)⟩ | exact Or.inl ⟨rfl, ⟨_, rfl⟩, HF.out⟩ | exact ⟨false, m + nq, rfl, (by first | rfl | simp [World.drewN_drewN]), (fun h => by cases h), (fun h => absurd h HF.out)⟩
      · have k0 : decide (zs[i] < 0) = false := decide_eq_false h0
        by_cases h1 : B ≤ zs[i]
        · have HF := hid (HN.out (by omega))
          clear HN HR HP hp0 hc
          generalize zs[i] = x at *
          have k1 : decide (x ≥ B) = true := decide_eq_true h1
          go_wp2_with fail
          go_quiet (fail)
          go_wp2_with fail
          go_ret
          first | exact ⟨false, _, rfl, rfl, (fun h => by cases h), (fun h => absurd h HF.out)⟩ | exact Or.inl ⟨rfl, ⟨_, rfl⟩, HF.out⟩ | exact ⟨false, m + nq, rfl, (by first | rfl | simp [World.drewN_drewN]), (fun h => by cases h), (fun h => absurd h HF.out)⟩
        · have k1 : decide (zs[i] ≥ B) = false := decide_eq_false h1
          by_cases hz : i = 0
          · have k2 : decide ((i : Int) > 0) = false := decide_eq_false (by omega)
            have HF := hid (HR.out ⟨by unfold pv; rw [if_pos hz]; omega, by omega⟩)
            clear HN HR HP hp0 hc
            generalize zs[i] = x at *
            have k2N : ¬ 0 < i := by omega
            have k2J : ¬ ((i : Int) > 0) := by omega
            have k2K : (i : Int) ≤ 0 := by omega
            clear hz
            go_wp2_with fail
            go_quiet (fail)
            go_wp2_with fail
            go_roundw
            case rel => exact ⟨i + 1, m + nq, by go_num, by simp, by omega, HF.out⟩
            case measure => simp [intOf]; omega
          · have k2 : decide ((i : Int) > 0) = true := decide_eq_true (by omega)
            have hj : i - 1 < zs.length := by omega
            have hcell2 := hc (i - 1) (.int .i64 zs[i - 1]) (by unfold ints; rw [List.getElem?_map, List.getElem?_eq_getElem hj]; rfl)
            have hpv : pv zs i = zs[i - 1] := by unfold pv; rw [if_neg hz, List.getElem?_eq_getElem hj]; rfl
            rw [hpv] at HN HR
            clear hpv
            generalize hjj : i - 1 = j at *
            have hjI : (i : Int) - 1 = (j : Int) := by omega
            have hj0 : (0 : Int) ≤ (j : Int) := by omega
            have hjlt : (j : Int) < (zs.length : Int) := by omega
            have hjlt2 : j < zs.length := by omega
            have k2N : 0 < i := by omega
            clear hjj HP hp0 hc
            by_cases h2 : zs[i] < zs[j]
            · have HF := hid (HN.out (by omega))
              clear HN HR
              have k3 : decide (zs[i] < zs[j]) = true := decide_eq_true h2
              generalize zs[i] = x at *
              generalize zs[j] = y at *
              go_wp2_with fail
              go_quiet (fail)
              go_wp2_with fail
              go_ret
              first | exact ⟨false, _, rfl, rfl, (fun h => by cases h), (fun h => absurd h HF.out)⟩ | exact Or.inl ⟨rfl, ⟨_, rfl⟩, HF.out⟩ | exact ⟨false, m + nq, rfl, (by first | rfl | simp [World.drewN_drewN]), (fun h => by cases h), (fun h => absurd h HF.out)⟩
            · have HF := hid (HR.out (by omega))
              clear HN HR
              have k3 : decide (zs[i] < zs[j]) = false := decide_eq_false h2
              generalize zs[i] = x at *
              generalize zs[j] = y at *
              go_wp2_with fail
              go_quiet (fail)
              go_wp2_with fail
              go_roundw
              case rel => exact ⟨i + 1, m + nq, by go_num, by simp, by omega, HF.out⟩
              case measure => simp [intOf]; omega
    · obtain rfl : i = zs.length := by omega
      have HT := hid (show okFrom 0 B zs = true by rw [HOK.out, List.drop_length]; rfl)
      clear HOK hp0
      have k3 : decide ((zs.length : Int) < 16777216) = true := by apply decide_eq_true; omega
      have k3N : zs.length < 16777216 := by omega
      by_cases h1 : 1 ≤ B
      · have k1 : decide (B ≥ 1) = true := decide_eq_true h1
        by_cases h2 : B ≤ 1099511627776
        · have k2 : decide (B ≤ 1099511627776) = true := decide_eq_true h2
          have HN := hid (show RightZ zs B from ⟨⟨h1, h2, k3N⟩, HT.out⟩)
          go_wp2_with fail
          go_ret
          first | exact ⟨true, _, rfl, rfl, (fun _ => HN.out), (fun _ => rfl)⟩ | exact Or.inr ⟨rfl, ⟨_, rfl⟩, HN.out⟩
        · have k2 : decide (B ≤ 1099511627776) = false := decide_eq_false h2
          have HF := hid (show ¬ RightZ zs B from fun h => h2 h.1.2.1)
          go_wp2_with fail
          go_ret
          first | exact ⟨false, _, rfl, rfl, (fun h => by cases h), (fun h => absurd h HF.out)⟩ | exact Or.inl ⟨rfl, ⟨_, rfl⟩, HF.out⟩ | exact ⟨false, m + nq, rfl, (by first | rfl | simp [World.drewN_drewN]), (fun h => by cases h), (fun h => absurd h HF.out)⟩
      · have k1 : decide (B ≥ 1) = false := decide_eq_false h1
        have HF := hid (show ¬ RightZ zs B from fun h => h1 h.1.1)
        go_wp2_with fail
        go_ret
        first | exact ⟨false, _, rfl, rfl, (fun h => by cases h), (fun h => absurd h HF.out)⟩ | exact Or.inl ⟨rfl, ⟨_, rfl⟩, HF.out⟩ | exact ⟨false, m + nq, rfl, (by first | rfl | simp [World.drewN_drewN]), (fun h => by cases h), (fun h => absurd h HF.out)⟩

end Go.Proofs.YtacllonekidocaaGreatDoor

/- Walks: the reference's width; few; awake of chapter 05. -/

set_option linter.unusedVariables false
set_option linter.unusedSimpArgs false
set_option maxRecDepth 100000
namespace Go.Proofs.YtacllonekidocaaGreatDoor
open Go.RowKit Go.Shelf L

theorem L.need_half (q : Nat) (h : 2 ≤ q) (hq : q < 18446744073709551616) : need q = need (q / 2) + 1 := by
  have h1 := need_spec q hq
  have h2 := need_spec (q / 2) (by omega)
  have h3 : need (q / 2) ≠ 0 := fun e => by rw [e] at h2; have := h2.1; simp at this; omega
  have h4 := h2.2.1 h3
  obtain ⟨k, hk⟩ : ∃ k, need (q / 2) = k + 1 := ⟨need (q / 2) - 1, by omega⟩
  refine need_unique (x := q) h1.1 h1.2.1 ?_ (fun _ => ?_)
  · have := h2.1
    rw [Nat.pow_succ]; omega
  · rw [Nat.add_sub_cancel, hk, Nat.pow_succ]
    rw [hk, Nat.add_sub_cancel] at h4
    omega
theorem L.need_one : need 1 = 1 := need_unique (x := 1) (need_spec 1 (by decide)).1 (need_spec 1 (by decide)).2.1 (by decide) (by decide)

set_option maxHeartbeats 1000000 in
theorem refWidth_any (n : Nat) (B : Int) (w : World) (hn : n ≤ 16777216) (hB : B ≤ 9223372036854775807) :
    Calls Tryz.prog 48 #[.int .i64 (n : Nat), .int .i64 B] w fun e w' => e = .returned (.int .i64 (wd n B.toNat : Nat)) ∧ w = w' := by
  rcases Nat.eq_zero_or_pos n with h0 | h0
  · have g0 : ((n : Int) == 0) = true := by rw [beq_iff_eq]; omega
    have HW := hid (show wd n B.toNat = 0 by unfold wd; rw [if_pos (Or.inl h0)])
    clear h0
    go_enter Tryz.func48, Tryz.ntmps48
    go_wp2_with fail
    go_ret
    exact ⟨by rw [HW.out]; rfl, rfl⟩
  · have g0 : ((n : Int) == 0) = false := by rw [beq_eq_false_iff_ne]; omega
    have hnw : IntKind.i64.wrap (2 * (n : Int)) = 2 * (n : Int) := by rw [IntKind.wrap_i64]; omega
    by_cases h2 : B < 2 * (n : Int)
    · have g1 : decide (B < 2 * (n : Int)) = true := decide_eq_true h2
      have HW := hid (show wd n B.toNat = 0 by unfold wd; rw [if_pos (Or.inr (by omega))])
      clear h2
      go_enter Tryz.func48, Tryz.ntmps48
      go_wp2_with fail
      go_ret
      exact ⟨by rw [HW.out]; rfl, rfl⟩
    · have g1 : decide (B < 2 * (n : Int)) = false := decide_eq_false h2
      obtain ⟨b, rfl⟩ := Int.eq_ofNat_of_zero_le (show 0 ≤ B by omega)
      have HW := hid (show wd n b = need (b / n) - 1 by unfold wd; rw [if_neg (by omega)])
      have hq2 : 2 ≤ b / n := (Nat.le_div_iff_mul_le h0).2 (by omega)
      have hqB : b / n ≤ b := Nat.div_le_self _ _
      obtain ⟨q0, hq⟩ : ∃ q, q = b / n := ⟨_, rfl⟩
      have hqI : (b : Int) / (n : Int) = (q0 : Int) := by rw [hq]; simp
      have hqT : (b : Int).tdiv (n : Int) = (q0 : Int) := by rw [Int.tdiv_eq_ediv_of_nonneg (by omega)]; exact hqI
      rw [← hq] at HW hq2 hqB
      have hqW : IntKind.i64.wrap (q0 : Int) = (q0 : Int) := by rw [IntKind.wrap_i64]; omega
      have hnp := (need_spec q0 (by omega)).2.2
      clear hq h2
      go_enter Tryz.func48, Tryz.ntmps48
      go_wp2_with fail
      go_loop [5, 6] (fun v u => ∃ (a q : Nat), v = .int .i64 (a : Nat) ∧ u = .int .i64 (q : Nat) ∧ 1 ≤ q ∧ q ≤ q0 ∧ need q + a = need q0) (fun _ u => (intOf u).toNat)
      case atStart => exact ⟨0, q0, rfl, rfl, by omega, Nat.le_refl _, rfl⟩
      case round =>
        obtain ⟨a, q, rfl, rfl, h1, hqq, hna⟩ := hrel
        rcases Nat.lt_or_ge 1 q with h | h
        · have d1 : decide ((q : Int) > 1) = true := decide_eq_true (by omega)
          have hd : (q : Int) / 2 = ((q / 2 : Nat) : Int) := by omega
          have ht : (q : Int).tdiv 2 = ((q / 2 : Nat) : Int) := by rw [Int.tdiv_eq_ediv_of_nonneg (by omega)]; exact hd
          have hdw : IntKind.i64.wrap ((q / 2 : Nat) : Int) = ((q / 2 : Nat) : Int) := by rw [IntKind.wrap_i64]; omega
          have haw : IntKind.i64.wrap ((a : Int) + 1) = (a : Int) + 1 := by rw [IntKind.wrap_i64]; omega
          have hr : need (q / 2) + (a + 1) = need q0 := by have := L.need_half q (by omega) (by omega); omega
          have hb1 : 1 ≤ q / 2 := by omega
          have hb2 : q / 2 < q := by omega
          generalize q / 2 = r at *
          go_wp2_with fail
          go_round
          case rel => exact ⟨a + 1, r, by go_num, by first | rfl | go_num, hb1, by omega, hr⟩
          case measure => simp [intOf]; omega
        · obtain rfl : q = 1 := by omega
          rw [L.need_one] at hna
          have ha : a = need q0 - 1 := by omega
          have HA := hid ha
          clear ha hna h
          go_wp2_with fail
          go_ret
          exact ⟨by first | (rw [HW.out, ← HA.out]; rfl) | (rw [Int.toNat_natCast, HW.out, ← HA.out]; rfl), rfl⟩

/-- Not too many bits, as the laws ask. -/
def L.fewB (n : Nat) (B : Int) : Bool := decide (n ≤ 100) && (decide (B < 4096) || (decide (0 < n) && decide (B.toNat / 2 ^ wd n B.toNat < 4096)))
theorem L.fewB_few {l : List Nat} {b : Nat} (h : fewB l.length (b : Nat) = true) (hr : RightN l b) : Few l b := by
  unfold fewB at h
  simp only [Bool.and_eq_true, Bool.or_eq_true, decide_eq_true_eq, Int.toNat_natCast] at h
  refine ⟨by omega, ?_⟩
  rcases h.2 with h2 | h2
  · exact Nat.le_trans (Nat.div_le_self _ _) (by omega)
  · have := Nat.div_le_div_right (c := 2 ^ wd l.length b) (show b - 1 ≤ b by omega)
    omega
theorem L.wd_le64 (n B : Nat) (hB : B < 9223372036854775808) : wd n B ≤ 63 := by
  unfold wd
  split
  · omega
  · have := (need_spec (B / n) (Nat.lt_of_le_of_lt (Nat.div_le_self _ _) (by omega))).2.2
    omega

theorem lst_four {w : World} {g : Nat} {T : TypeId} {x y z u : Value} (h : BlkIs w g T #[x, y, z, u]) : Lst w (some ⟨g, 0, none⟩) [x, y, z, u] := fun i u hi => ⟨_, rfl, by
  rw [add_zero_, h.cell i]; simpa using hi⟩

end Go.Proofs.YtacllonekidocaaGreatDoor

/- Walks: the law FanoMakes returns true. -/

set_option linter.unusedVariables false
set_option linter.unusedSimpArgs false
set_option maxRecDepth 100000
namespace Go.Proofs.YtacllonekidocaaGreatDoor
open Go.RowKit Go.Shelf L

/-- Right or not, as one number. -/
theorem refRight_is (A : Option Addr) (c : Nat) (zs : List Int) (B : Int) (w : World) (hl : Lst w A (ints zs)) (hn : zs.length ≤ 1000000) (ok : Bool) (h : ok = true ↔ RightZ zs B) :
    Calls Tryz.prog 49 #[.slice A zs.length c, .int .i64 B] w fun e w' => e = .returned (.bool ok) ∧ Below w.heap.size w w' := by
  refine (refRight_any A c zs B w hl hn).mono ?_
  rintro e w' ⟨ok', m, rfl, rfl, h'⟩
  have : ok' = ok := by rw [Bool.eq_iff_iff, h, h']
  subst this
  exact ⟨rfl, below_of_drewN (Below.refl _ (w.drewN m))⟩

end Go.Proofs.YtacllonekidocaaGreatDoor

/- Walks: the reference's less, next, and the one ahead. -/

set_option linter.unusedVariables false
set_option linter.unusedSimpArgs false
set_option maxRecDepth 100000
namespace Go.Proofs.YtacllonekidocaaGreatDoor
open Go.RowKit Go.Shelf L

theorem L.clz_unique {l : List Nat} (h : Ris l) {x : Int} {i : Nat} (hi : i ≤ l.length) (h1 : ∀ j (hj : j < i), (l[j]'(by omega) : Int) < x) (h2 : ∀ hi' : i < l.length, x ≤ (l[i] : Int)) : clz l x = i := by
  refine cl_unique h hi (fun j hj => ?_) (fun hi' => ?_)
  · have := h1 j hj; omega
  · have := h2 hi'; omega
theorem L.clz_count (l : List Nat) (x : Int) : clz l x = l.countP fun y : Nat => decide ((y : Int) < x) := by
  unfold clz cl
  exact List.countP_congr (fun y _ => by simp <;> omega)

def oF (o : Option Nat) : Nat := o.getD 0
def oB (o : Option Nat) : Bool := o.isSome
theorem oN_eq (o : Option Nat) : oN o = .tuple #[.int .i64 (oF o : Nat), .bool (oB o)] := by cases o <;> rfl
theorem hasN_eq (l : List Nat) (x : Int) : hasN l x = (oB (nxt l x) && ((oF (nxt l x) : Int) == x)) := by
  unfold hasN
  cases nxt l x with
  | none => rfl
  | some y =>
    simp only [oB, oF, Option.isSome, Option.getD, Bool.true_and]
    rw [Bool.eq_iff_iff]; simp; omega

end Go.Proofs.YtacllonekidocaaGreatDoor

/- Walks: the law FanoAsks returns true. -/


set_option linter.unusedVariables false
set_option linter.unusedSimpArgs false
set_option maxRecDepth 100000
namespace Go.Proofs.YtacllonekidocaaGreatDoor
open Go.RowKit Go.Shelf L Go.Sort

theorem refRight_yes {A : Option Addr} {c : Nat} {l : List Nat} {B : Nat} (hr : RightN l B) (hn : l.length ≤ 10000) (W : World) (hW : Lst W A (natCells l)) :
    Calls Tryz.prog 49 #[.slice A l.length c, .int .i64 (B : Nat)] W fun e w' => e = .returned (.bool true) ∧ Below W.heap.size W w' := by
  have := refRight_is A c (l.map (fun x : Nat => (x : Int))) (B : Nat) W (by rw [ints_nat]; exact hW) (by rw [List.length_map]; omega) true ⟨fun _ => hr.z (by omega), fun _ => rfl⟩
  rwa [List.length_map] at this

theorem L.fewB_le {n : Nat} {B : Int} (h : fewB n B = true) : n ≤ 100 := by
  unfold fewB at h
  simp only [Bool.and_eq_true, decide_eq_true_eq] at h
  exact h.1

end Go.Proofs.YtacllonekidocaaGreatDoor

/- Plain: numbers that rise: a number's own place, next, the one ahead; between two numbers; few of right ones. -/

set_option linter.unusedVariables false
set_option linter.unusedSimpArgs false
namespace Go.Proofs.YtacllonekidocaaGreatDoor
open Go.RowKit L

theorem L.clz_self_le {l : List Nat} (h : Ris l) {i : Nat} (hi : i < l.length) : clz l (l[i] : Nat) ≤ i ∧ ∀ hj : clz l (l[i] : Nat) < l.length, l[clz l (l[i] : Nat)] = l[i] := by
  have e : clz l (l[i] : Nat) = cl l l[i] := by unfold clz; rw [Int.toNat_natCast]
  rw [e]
  have h1 : cl l l[i] ≤ i := by
    have := (cl_lt h (x := l[i]) hi).2
    rcases Nat.lt_or_ge i (cl l l[i]) with h' | h'
    · have := (cl_lt h (x := l[i]) hi).2 h'; omega
    · exact h'
  refine ⟨h1, fun hj => ?_⟩
  generalize hq : cl l l[i] = q at *
  have h2 := h.le (i := q) (j := i) h1 hi
  have h3 := (cl_lt h (x := l[i]) hj)
  rw [hq] at h3
  omega
theorem L.nxt_self {l : List Nat} (h : Ris l) {i : Nat} (hi : i < l.length) : nxt l (l[i] : Nat) = some l[i] := by
  obtain ⟨h1, h2⟩ := clz_self_le h hi
  have hj : clz l (l[i] : Nat) < l.length := by omega
  unfold nxt
  rw [List.getElem?_eq_getElem hj, h2 hj]
theorem L.prv_self {l : List Nat} (h : Ris l) {i : Nat} (hi : i < l.length) : prv l (l[i] : Nat) = some l[i] := by
  have e : clz l ((l[i] : Nat) + 1) = cl l (l[i] + 1) := by unfold clz; congr 1
  unfold prv
  rw [e]
  have h1 : i < cl l (l[i] + 1) := (cl_lt h (x := l[i] + 1) hi).1 (by omega)
  have hle := cl_le l (l[i] + 1)
  generalize hq : cl l (l[i] + 1) = q at *
  have hj : q - 1 < l.length := by omega
  rw [if_neg (by omega), List.getElem?_eq_getElem hj]
  have h2 := (cl_lt h (x := l[i] + 1) hj).2 (by omega)
  have h3 := h.le (i := i) (j := q - 1) (by omega) hj
  congr 1
  omega
theorem L.hasN_self {l : List Nat} (h : Ris l) {i : Nat} (hi : i < l.length) : hasN l (l[i] : Nat) = true := by
  unfold hasN; rw [nxt_self h hi]; simp
theorem L.clz_new {l : List Nat} (h : Ris l) {i : Nat} (hi : i < l.length) (h0 : i ≠ 0) (hne : l[i] ≠ l[i - 1]'(by omega)) : clz l (l[i] : Nat) = i := by
  refine L.clz_unique h (by omega) (fun j hj => ?_) (fun _ => Int.le_refl _)
  have h1 := h.le (i := j) (j := i - 1) (by omega) (by omega)
  have h2 := h.le (i := i - 1) (j := i) (by omega) hi
  omega
theorem L.clz_first {l : List Nat} (h : Ris l) (hi : 0 < l.length) : clz l (l[0] : Nat) = 0 :=
  L.clz_unique h (by omega) (fun j hj => by omega) (fun _ => Int.le_refl _)
/-- Where the likes of the number ahead begin. -/
def L.fst (l : List Nat) (i : Nat) : Nat := if i = 0 then 0 else clz l (l.getD (i - 1) 0 : Nat)
theorem L.fst_succ {l : List Nat} {i : Nat} (hi : i < l.length) : fst l (i + 1) = clz l (l[i] : Nat) := by
  unfold fst; rw [if_neg (by omega), Nat.add_sub_cancel, List.getD_eq_getElem?_getD, List.getElem?_eq_getElem hi]; rfl
theorem L.fst_same {l : List Nat} (h : Ris l) {i : Nat} (hi : i < l.length) (he : i = 0 ∨ l[i] = l[i - 1]'(by omega)) : fst l i = clz l (l[i] : Nat) := by
  unfold fst
  split
  · rename_i h0
    subst h0
    exact (clz_first h hi).symm
  · rename_i h0
    have e := he.resolve_left h0
    rw [List.getD_eq_getElem?_getD, List.getElem?_eq_getElem (by omega : i - 1 < l.length), e]; rfl
theorem L.fst_le {l : List Nat} (i : Nat) : fst l i ≤ l.length := by
  unfold fst
  split
  · omega
  · unfold clz; exact cl_le _ _

theorem L.clz_mono (l : List Nat) {x y : Int} (h : x ≤ y) : clz l x ≤ clz l y := by unfold clz; exact cl_mono l (by omega)
theorem L.clz_between (l : List Nat) {x y : Int} (h : x ≤ y) : clz l y = clz l x + l.countP (fun z : Nat => decide (x ≤ (z : Int)) && decide ((z : Int) < y)) := by
  rw [clz_count, clz_count]
  induction l with
  | nil => rfl
  | cons z l ih =>
    rw [List.countP_cons, List.countP_cons, List.countP_cons, ih]
    by_cases h1 : (z : Int) < x
    · simp only [decide_eq_true h1, decide_eq_true (show (z : Int) < y by omega), decide_eq_false (show ¬ x ≤ (z : Int) by omega), Bool.false_and]; simp; omega
    · simp only [decide_eq_false h1, decide_eq_true (show x ≤ (z : Int) by omega), Bool.true_and]
      by_cases h2 : (z : Int) < y
      · simp only [decide_eq_true h2]; simp; omega
      · simp only [decide_eq_false h2]; simp
theorem L.nxt_ge {l : List Nat} (h : Ris l) {x : Int} {y : Nat} (hy : nxt l x = some y) : x ≤ (y : Int) := by
  unfold nxt at hy
  obtain ⟨hj, rfl⟩ := List.getElem?_eq_some_iff.1 hy
  have := cl_lt h (x := x.toNat) hj
  unfold clz at this ⊢
  omega
theorem L.prv_le {l : List Nat} (h : Ris l) {x : Int} {y : Nat} (hy : prv l x = some y) : (y : Int) ≤ x := by
  unfold prv at hy
  split at hy
  · cases hy
  · rename_i h0
    obtain ⟨hj, rfl⟩ := List.getElem?_eq_some_iff.1 hy
    have := cl_lt h (x := (x + 1).toNat) hj
    unfold clz at this h0 ⊢
    omega
theorem L.nxt_prv {l : List Nat} {x : Int} (h0 : l.length ≠ 0) (h1 : nxt l x = none) (h2 : prv l x = none) : False := by
  unfold nxt at h1
  unfold prv at h2
  rw [List.getElem?_eq_none_iff] at h1
  have h3 := L.clz_mono l (show x ≤ x + 1 by omega)
  have h4 := clz_le l (x + 1)
  split at h2
  · omega
  · rw [List.getElem?_eq_none_iff] at h2; omega

theorem L.wd_few (n B : Nat) (h0 : 0 < n) (hB : B < 18446744073709551616) : B / 2 ^ wd n B < 2 * n := by
  unfold wd
  split
  · rename_i h
    rw [Nat.pow_zero, Nat.div_one]; omega
  · rename_i h
    have hq : 2 ≤ B / n := (Nat.le_div_iff_mul_le h0).2 (by omega)
    have hs := need_spec (B / n) (Nat.lt_of_le_of_lt (Nat.div_le_self _ _) hB)
    have hn : need (B / n) ≠ 0 := fun e => by rw [e] at hs; have := hs.1; simp at this; omega
    obtain ⟨k, hk⟩ : ∃ k, need (B / n) = k + 1 := ⟨need (B / n) - 1, by omega⟩
    have h1 := hs.1
    rw [hk, Nat.add_sub_cancel] at *
    rw [Nat.div_lt_iff_lt_mul (Nat.two_pow_pos _)]
    have h2 : B < n * 2 ^ (k + 1) := by
      have := (Nat.div_lt_iff_lt_mul h0).1 h1
      rw [Nat.mul_comm] at this; exact this
    rw [Nat.pow_succ] at h2
    calc B < n * (2 ^ k * 2) := h2
      _ = 2 * n * 2 ^ k := by rw [Nat.mul_comm (2 ^ k) 2, ← Nat.mul_assoc, Nat.mul_comm n 2]
/-- Right numbers, some, not too many: not too many bits. -/
theorem L.RightN.few {l : List Nat} {B : Nat} (hr : RightN l B) (h0 : 0 < l.length) (hn : l.length ≤ 10000) : Few l B := by
  refine ⟨hn, ?_⟩
  have h1 := wd_few l.length B h0 (by have := hr.1; omega)
  have h2 := Nat.div_le_div_right (c := 2 ^ wd l.length B) (show B - 1 ≤ B by omega)
  omega
theorem L.Ris.snoc {l : List Nat} (h : Ris l) {m : Nat} (hm : ∀ y ∈ l, y ≤ m) : Ris (l ++ [m]) := by
  unfold Ris at *
  rw [List.pairwise_append]
  exact ⟨h, List.pairwise_singleton _ _, fun a ha b hb => by rw [List.mem_singleton] at hb; subst hb; exact hm a ha⟩
theorem L.RightN.snoc {l : List Nat} {B m : Nat} (hr : RightN l B) (hm : ∀ y ∈ l, y ≤ m) (hB : m < B) : RightN (l ++ [m]) B :=
  ⟨hr.1, hr.2.1.snoc hm, fun x hx => by
    rcases List.mem_append.1 hx with h | h
    · exact hr.2.2 x h
    · rw [List.mem_singleton] at h; omega⟩
theorem L.clz_snoc {l : List Nat} {m : Nat} {x : Int} (h : x ≤ m) : clz (l ++ [m]) x = clz l x := by
  rw [clz_count, clz_count, List.countP_append, List.countP_singleton, decide_eq_false (by omega)]; rfl
theorem L.Ris.last {l : List Nat} (h : Ris l) (h0 : 0 < l.length) : ∀ y ∈ l, y ≤ l[l.length - 1] := by
  intro y hy
  obtain ⟨j, hj, rfl⟩ := List.mem_iff_getElem.1 hy
  exact h.le (by omega) (by omega)
theorem L.hasN_last {l : List Nat} {m : Nat} (h : Ris (l ++ [m])) : hasN (l ++ [m]) (m : Nat) = true := by
  have hi : l.length < (l ++ [m]).length := by simp
  have := hasN_self h hi
  rwa [show (l ++ [m])[l.length] = m by simp] at this

end Go.Proofs.YtacllonekidocaaGreatDoor
