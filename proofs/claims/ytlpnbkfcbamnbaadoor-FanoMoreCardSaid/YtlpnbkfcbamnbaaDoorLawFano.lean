/- Walks: the reference's right numbers and width; few; awake of chapter 05. -/
import Derived.Test.YtlpnbkfcbamnbaaDoorFanoH
set_option linter.unusedVariables false
set_option linter.unusedSimpArgs false
set_option maxRecDepth 100000
namespace Go.Proofs.YtlpnbkfcbamnbaaDoor
open Go.RowKit Go.Shelf L

def L.pv (zs : List Int) (i : Nat) : Int := if i = 0 then 0 else zs[i - 1]?.getD 0
theorem L.okFrom_step (p B : Int) (zs : List Int) (i : Nat) (h : i < zs.length) : okFrom p B (zs.drop i) = (decide (p ≤ zs[i]) && decide (zs[i] < B) && okFrom zs[i] B (zs.drop (i + 1))) := by
  rw [List.drop_eq_getElem_cons h]; rfl
theorem L.pv_succ (zs : List Int) (i : Nat) (h : i < zs.length) : pv zs (i + 1) = zs[i] := by unfold pv; rw [if_neg (by omega), Nat.add_sub_cancel, List.getElem?_eq_getElem h]; rfl

set_option maxHeartbeats 4000000 in
theorem refRight_any (A : Option Addr) (c : Nat) (zs : List Int) (B : Int) (w : World) (hl : Lst w A (ints zs)) (hn : zs.length ≤ 1000000) :
    Calls Tryd.prog 15 #[.slice A zs.length c, .int .i64 B] w fun e w' => ∃ ok m, e = .returned (.bool ok) ∧ w' = w.drewN m ∧ (ok = true ↔ RightZ zs B) := by
  go_enter Tryd.func15, Tryd.ntmps15
  go_wp2_with fail
  go_loopw [5] (fun iv wr => ∃ (i m : Nat), iv = .int .i64 (i : Nat) ∧ wr = w.drewN m ∧ i ≤ zs.length ∧ okFrom 0 B zs = okFrom (pv zs i) B (zs.drop i) ∧ 0 ≤ pv zs i) (fun iv _ => zs.length - (intOf iv).toNat)
  case atStart => exact ⟨0, 0, rfl, rfl, by omega, rfl, Int.le_refl _⟩
  case round =>
    obtain ⟨i, m, rfl, rfl, hi, hok, hp0⟩ := hrel
    have HOK := hid hok
    clear hok
    rcases Nat.lt_or_ge i zs.length with hlt | hge
    · have hii : (i : Int) < (zs.length : Int) := by omega
      have hi0 : (0 : Int) ≤ (i : Int) := by omega
      have hiW := wrap_one i (by omega)
      obtain ⟨g, o, rfl, _, hc⟩ := hl.lit (by unfold ints; rw [List.length_map]; omega)
      have hcell := hc i (.int .i64 zs[i]) (by unfold ints; rw [List.getElem?_map, List.getElem?_eq_getElem hlt]; rfl)
      have HD := hid (okFrom_step (pv zs i) B zs i hlt)
      have HS := hid (pv_succ zs i hlt)
      have HP := hid hp0
      have HN := hid (show ¬ (pv zs i ≤ zs[i] ∧ zs[i] < B) → ¬ RightZ zs B from fun hh h => by
        have := h.2
        rw [HOK.out, HD.out] at this
        simp only [Bool.and_eq_true, decide_eq_true_eq] at this
        exact hh this.1)
      have HR := hid (show (pv zs i ≤ zs[i] ∧ zs[i] < B) → okFrom 0 B zs = okFrom (pv zs (i + 1)) B (zs.drop (i + 1)) ∧ 0 ≤ pv zs (i + 1) from fun hh => by
        rw [HS.out, HOK.out, HD.out, decide_eq_true hh.1, decide_eq_true hh.2]
        exact ⟨rfl, by have := HP.out; omega⟩)
      clear HOK HD HS
      by_cases h0 : zs[i] < 0
      · have HF := hid (HN.out (by have := HP.out; omega))
        clear HN HR HP hp0 hc
        generalize zs[i] = x at *
        have k0 : decide (x < 0) = true := decide_eq_true h0
        go_wp2_with fail
        go_quiet (fail)
        go_wp2_with fail
        go_ret
        first | exact ⟨false, _, rfl, rfl, (fun h => by cases h), (fun h => absurd h HF.out)⟩ | exact Or.inl ⟨rfl, ⟨_, rfl⟩, HF.out⟩ | exact ⟨false, m + nq, rfl, (by first | rfl | simp [World.drewN_drewN]), (fun h => by cases h), (fun h => absurd h HF.out)⟩ | (trace_state; sorry)
      · have k0 : decide (zs[i] < 0) = false := decide_eq_false h0
        by_cases h1 : B ≤ zs[i]
        · have HF := hid (HN.out (by omega))
          clear HN HR HP hp0 hc
          generalize zs[i] = x at *
          have k1 : decide (x ≥ B) = true := decide_eq_true h1
          go_wp2_with fail
          go_quiet (fail)
          go_wp2_with fail
          go_ret
          first | exact ⟨false, _, rfl, rfl, (fun h => by cases h), (fun h => absurd h HF.out)⟩ | exact Or.inl ⟨rfl, ⟨_, rfl⟩, HF.out⟩ | exact ⟨false, m + nq, rfl, (by first | rfl | simp [World.drewN_drewN]), (fun h => by cases h), (fun h => absurd h HF.out)⟩ | (trace_state; sorry)
        · have k1 : decide (zs[i] ≥ B) = false := decide_eq_false h1
          by_cases hz : i = 0
          · have k2 : decide ((i : Int) > 0) = false := decide_eq_false (by omega)
            have HF := hid (HR.out ⟨by unfold pv; rw [if_pos hz]; omega, by omega⟩)
            clear HN HR HP hp0 hc
            generalize zs[i] = x at *
            have k2N : ¬ 0 < i := by omega
            have k2J : ¬ ((i : Int) > 0) := by omega
            have k2K : (i : Int) ≤ 0 := by omega
            clear hz
            go_wp2_with fail
            go_quiet (fail)
            go_wp2_with fail
            go_roundw
            case rel => exact ⟨i + 1, m + nq, by go_num, by simp, by omega, HF.out⟩
            case measure => simp [intOf]; omega
          · have k2 : decide ((i : Int) > 0) = true := decide_eq_true (by omega)
            have hj : i - 1 < zs.length := by omega
            have hcell2 := hc (i - 1) (.int .i64 zs[i - 1]) (by unfold ints; rw [List.getElem?_map, List.getElem?_eq_getElem hj]; rfl)
            have hpv : pv zs i = zs[i - 1] := by unfold pv; rw [if_neg hz, List.getElem?_eq_getElem hj]; rfl
            rw [hpv] at HN HR
            clear hpv
            generalize hjj : i - 1 = j at *
            have hjI : (i : Int) - 1 = (j : Int) := by omega
            have hj0 : (0 : Int) ≤ (j : Int) := by omega
            have hjlt : (j : Int) < (zs.length : Int) := by omega
            have hjlt2 : j < zs.length := by omega
            have k2N : 0 < i := by omega
            clear hjj HP hp0 hc
            by_cases h2 : zs[i] < zs[j]
            · have HF := hid (HN.out (by omega))
              clear HN HR
              have k3 : decide (zs[i] < zs[j]) = true := decide_eq_true h2
              generalize zs[i] = x at *
              generalize zs[j] = y at *
              go_wp2_with fail
              go_quiet (fail)
              go_wp2_with fail
              go_ret
              first | exact ⟨false, _, rfl, rfl, (fun h => by cases h), (fun h => absurd h HF.out)⟩ | exact Or.inl ⟨rfl, ⟨_, rfl⟩, HF.out⟩ | exact ⟨false, m + nq, rfl, (by first | rfl | simp [World.drewN_drewN]), (fun h => by cases h), (fun h => absurd h HF.out)⟩ | (trace_state; sorry)
            · have HF := hid (HR.out (by omega))
              clear HN HR
              have k3 : decide (zs[i] < zs[j]) = false := decide_eq_false h2
              generalize zs[i] = x at *
              generalize zs[j] = y at *
              go_wp2_with fail
              go_quiet (fail)
              go_wp2_with fail
              go_roundw
              case rel => exact ⟨i + 1, m + nq, by go_num, by simp, by omega, HF.out⟩
              case measure => simp [intOf]; omega
    · obtain rfl : i = zs.length := by omega
      have HT := hid (show okFrom 0 B zs = true by rw [HOK.out, List.drop_length]; rfl)
      clear HOK hp0
      have k3 : decide ((zs.length : Int) < 16777216) = true := by apply decide_eq_true; omega
      have k3N : zs.length < 16777216 := by omega
      by_cases h1 : 1 ≤ B
      · have k1 : decide (B ≥ 1) = true := decide_eq_true h1
        by_cases h2 : B ≤ 1099511627776
        · have k2 : decide (B ≤ 1099511627776) = true := decide_eq_true h2
          have HN := hid (show RightZ zs B from ⟨⟨h1, h2, k3N⟩, HT.out⟩)
          go_wp2_with fail
          go_ret
          first | exact ⟨true, _, rfl, rfl, (fun _ => HN.out), (fun _ => rfl)⟩ | exact Or.inr ⟨rfl, ⟨_, rfl⟩, HN.out⟩
        · have k2 : decide (B ≤ 1099511627776) = false := decide_eq_false h2
          have HF := hid (show ¬ RightZ zs B from fun h => h2 h.1.2.1)
          go_wp2_with fail
          go_ret
          first | exact ⟨false, _, rfl, rfl, (fun h => by cases h), (fun h => absurd h HF.out)⟩ | exact Or.inl ⟨rfl, ⟨_, rfl⟩, HF.out⟩ | exact ⟨false, m + nq, rfl, (by first | rfl | simp [World.drewN_drewN]), (fun h => by cases h), (fun h => absurd h HF.out)⟩ | (trace_state; sorry)
      · have k1 : decide (B ≥ 1) = false := decide_eq_false h1
        have HF := hid (show ¬ RightZ zs B from fun h => h1 h.1.1)
        go_wp2_with fail
        go_ret
        first | exact ⟨false, _, rfl, rfl, (fun h => by cases h), (fun h => absurd h HF.out)⟩ | exact Or.inl ⟨rfl, ⟨_, rfl⟩, HF.out⟩ | exact ⟨false, m + nq, rfl, (by first | rfl | simp [World.drewN_drewN]), (fun h => by cases h), (fun h => absurd h HF.out)⟩ | (trace_state; sorry)

end Go.Proofs.YtlpnbkfcbamnbaaDoor
