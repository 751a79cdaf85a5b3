/- Walks: the law ChooseFinds returns true. -/
import Derived.Test.YtdhokioiloggeaaDoorLawChoose
set_option linter.unusedVariables false
set_option linter.unusedSimpArgs false
set_option maxRecDepth 100000
namespace Go.Proofs.YtdhokioiloggeaaDoor
open Go.RowKit Go.Shelf L

def intCells4 (l : List Int) : List Value := l.map (Value.int .i64)

theorem refOnes04_any (A : Option Addr) (c : Nat) (bs : List Bool) (w : World) (hl : Lst w A (bools bs)) (hs : bs.length ≤ 4294967296) :
    Calls Tryd.prog 39 #[.slice A bs.length c] w fun e w' => e = .returned (.int .i64 (kc true bs bs.length : Nat)) ∧ w = w' := by
  have HR := hid (refRankOne_any A c bs (bs.length : Nat) w hl hs)
  have HK := hid (kc_one bs bs.length)
  go_enter Tryd.func39, Tryd.ntmps39
  go_wp2_with fail
  refine HR.out.mono ?_
  rw [HK.out]
  rintro e w' ⟨rfl, rfl⟩
  go_wp2
  go_ret
  exact ⟨rfl, rfl⟩

set_option maxHeartbeats 2000000 in
theorem lawChooseFinds_long (A : Option Addr) (n c : Nat) (B : Option Addr) (m d : Nat) (w : World) (hn : 60 < n ∨ 20 < m) (hT : Tab w) :
    Calls Tryd.prog 12 #[.slice A n c, .slice B m d] w fun e w' => e = .returned (.bool true) ∧ Below w.heap.size w w' := by
  rcases Nat.lt_or_ge 60 n with h | h
  · have h1 : (60 : Int) < (n : Int) := by omega
    go_enter Tryd.func12, Tryd.ntmps12
    go_wp2_with fail
    refine (awake4 _ hT).mono ?_
    rintro e w1 ⟨rfl, hB1⟩
    go_wp2_with fail
    refine (awake4 _ (hT.below hB1)).mono ?_
    rintro e w2 ⟨rfl, hB2⟩
    go_wp2
    go_ret
    exact ⟨rfl, hB1.trans (hB2.mono hB1.size)⟩
  · have h1 : (n : Int) ≤ 60 := by omega
    have h2 : (20 : Int) < (m : Int) := by omega
    go_enter Tryd.func12, Tryd.ntmps12
    go_wp2_with fail
    refine (awake4 _ hT).mono ?_
    rintro e w1 ⟨rfl, hB1⟩
    go_wp2_with fail
    refine (awake4 _ (hT.below hB1)).mono ?_
    rintro e w2 ⟨rfl, hB2⟩
    go_wp2
    go_ret
    exact ⟨rfl, hB1.trans (hB2.mono hB1.size)⟩

/-- What a place's sign says. -/
theorem pl_sign (z : Int) : (plErr z == 0) = decide (0 ≤ z) ∧ (z < 0 → plErr z = 2) ∧ (0 ≤ z → plErr z = 0) := by
  unfold plErr
  by_cases h : 0 ≤ z
  · rw [if_pos h, decide_eq_true h]; exact ⟨rfl, fun h2 => by omega, fun _ => rfl⟩
  · rw [if_neg h, decide_eq_false h]; exact ⟨rfl, fun _ => rfl, fun h2 => absurd h2 h⟩

set_option maxHeartbeats 2000000 in
theorem lawChooseFinds_true (A : Option Addr) (c : Nat) (l : List (Nat × Int)) (B : Option Addr) (d : Nat) (ps : List Int) (w : World) (hl : Lst w A (opCells l)) (hx : ∀ o ∈ l, o.1 < 18446744073709551616) (hps : Lst w B (intCells4 ps)) (hn : l.length ≤ 60) (hm : ps.length ≤ 20) (hT : Tab w) :
    Calls Tryd.prog 12 #[.slice A l.length c, .slice B ps.length d] w fun e w' => e = .returned (.bool true) ∧ Below w.heap.size w w' := by
  have hbl := allPuts_length l
  go_enter Tryd.func12, Tryd.ntmps12
  go_wp2_with fail
  refine (awake4 _ hT).mono ?_
  rintro e w1 ⟨rfl, hB1⟩
  have hz1 := hB1.size
  go_wp2_with fail
  refine (all_any A c l _ (hl.below hB1) hx hn).mono ?_
  rintro e w2 ⟨A2, c2, rfl, hl2, hA2, hB2, hc2⟩
  have hz2 := hB2.size
  generalize allPuts l = bs at *
  have hbs : bs.length ≤ 3840 := by omega
  go_wp2_with fail
  refine (made_any A2 c2 bs _ hl2 (by omega)).mono ?_
  rintro e w3 ⟨g3, A3, c3, rfl, hr3, _, _, hB3⟩
  have hz3 := hB3.size
  have hBa : Below w.heap.size w w3 := hB1.trans ((hB2.mono hz1).trans (hB3.mono (by omega)))
  have hza := hBa.size
  have hl3 := hl2.below hB3
  clear hB1 hB2 hB3 hl2 hl
  go_wp2_with fail
  refine (chooseNew_any g3 A3 c3 bs _ hr3).mono ?_
  rintro e w4 ⟨gc, gd, Ad, cd, A1, c1, l1, A0, c0, l0, rfl, hc, hB4, _⟩
  have hBb := hBa.trans (hB4.mono hza)
  have hzb := hBb.size
  have hl4 := hl3.below hB4
  have hT4 := hT.below hBb
  have hps4 := hps.below hBb
  clear hB4 hBa hl3 hr3 hps
  go_wp2_with fail
  go_loopw [7] (fun i wr => ∃ k : Nat, k ≤ ps.length ∧ i = .int .i64 k ∧ Below w4.heap.size w4 wr) (fun i _ => ps.length - (intOf i).toNat)
  case atStart => exact ⟨0, by omega, rfl, Below.refl _ _⟩
  case round =>
    obtain ⟨k, hk, rfl, hB⟩ := hrel
    have hsz := hB.size
    have hcr := hc.below hB
    have hlr := hl4.below hB
    have hTr := hT4.below hB
    rcases Nat.lt_or_ge k ps.length with hlt | hge
    · have hki : (k : Int) < (ps.length : Int) := by omega
      have hk0 : (0 : Int) ≤ (k : Int) := by omega
      obtain ⟨ab, ao, rfl, had, hcl⟩ := hps4.lit (by rw [intCells4, List.length_map]; omega)
      have q0 : (intCells4 ps)[k]? = some (.int .i64 ps[k]) := by rw [intCells4, List.getElem?_map, List.getElem?_eq_getElem hlt]; rfl
      have wk := hcl _ _ q0
      have wc0 := (hB.cell (p := ⟨ab, ao + k, none⟩) had).trans wk
      clear q0 hcl
      generalize ps[k] = p at *
      have H1 := hid (chOne_any gc gd g3 A3 c3 bs Ad cd A1 c1 l1 A0 c0 l0 p wr hcr hTr)
      have H0 := hid (fun W hW hTW => chZero_any gc gd g3 A3 c3 bs Ad cd A1 c1 l1 A0 c0 l0 p W hW hTW)
      have HAA := hid (fun t W hW => refAt_any A2 c2 bs p t W hW (by omega))
      have HRK := hid (fun W hW => chRank_any gc gd g3 A3 c3 bs Ad cd A1 c1 l1 A0 c0 l0 p W hW)
      have HRR := hid (fun W hW => refRankOne_any A2 c2 bs p W hW (by omega))
      generalize cnt bs (held bs.length p) = rr at *
      go_wp2_with fail
      refine H1.out.mono ?_
      rintro e w5 ⟨rfl, hB5⟩
      have hB5' := hB.trans (hB5.mono hsz)
      have hsz5 := hB5'.size
      have wc5 := (hB5'.cell (p := ⟨ab, ao + k, none⟩) had).trans wk
      go_wp2_with fail
      refine (H0.out _ (hc.below hB5') (hT4.below hB5')).mono ?_
      rintro e w6 ⟨rfl, hB6⟩
      have hB6' := hB5'.trans (hB6.mono hsz5)
      have hsz6 := hB6'.size
      have wc6 := (hB6'.cell (p := ⟨ab, ao + k, none⟩) had).trans wk
      have hl6 := hl4.below hB6'
      have hc6 := hc.below hB6'
      go_wp2_with fail
      go_quiet ((go_at_call 36; exact quiet_left (HAA.out _ _ (by exact hl6))))
      clear HAA H1 H0
      generalize pl true bs p = z1 at *
      generalize pl false bs p = z0 at *
      have R1 := hid (fun W (hW : Below w4.heap.size w4 W) => show Calls Tryd.prog 37 #[.pointer (some ⟨gc, 0, none⟩), .int .i64 p] W (fun e w' => e = .returned (.int .i64 (rr : Nat)) ∧ Below w4.heap.size w4 w') from (HRK.out W (hc.below hW)).mono (fun e w' ⟨he, hb⟩ => ⟨he, hW.trans (hb.mono hW.size)⟩))
      have R2 := hid (fun W (hW : Below w4.heap.size w4 W) => HRR.out W (hl4.below hW))
      have KC := hid (show ∀ W, Below w4.heap.size w4 W → W.cell? ⟨ab, ao + k, none⟩ = some (.int .i64 p) from fun W hW => (hW.cell (p := ⟨ab, ao + k, none⟩) had).trans wk)
      rcases Int.lt_or_le z1 0 with h1 | h1 <;> rcases Int.lt_or_le z0 0 with h0 | h0
      · have e1 : plErr z1 = 2 := (pl_sign z1).2.1 h1
        have d1 : decide (0 ≤ z1) = false := decide_eq_false (by omega)
        have e0 : plErr z0 = 2 := (pl_sign z0).2.1 h0
        have d0 : decide (0 ≤ z0) = false := decide_eq_false (by omega)
        rw [e1, e0]
        clear e1 e0
        go_wp2_with fail
        go_region_held3 (fun w' => Below w4.heap.size w4 w' ∧ w'.cell? ⟨ab, ao + k, none⟩ = some (.int .i64 p)) (first | exact ⟨(below_drewN hB6' _).drew, wc6⟩ | exact ⟨e1, KC.out _ e1⟩ | assumption)
          (first
           | (go_at_call 37; refine (R1.out _ (by first | assumption | exact And.left (by assumption))).mono ?_; rintro e w7 ⟨rfl, e1⟩)
           | (go_at_call 38; refine (R2.out _ (by first | assumption | exact And.left (by assumption))).mono ?_; rintro e w7 ⟨rfl, rfl⟩))
        all_goals go_wp2
        all_goals exact ⟨⟨k + 1, by omega, by go_num, by first | exact e1 | assumption⟩, by simp [intOf]; omega⟩
      · have e1 : plErr z1 = 2 := (pl_sign z1).2.1 h1
        have d1 : decide (0 ≤ z1) = false := decide_eq_false (by omega)
        have e0 : plErr z0 = 0 := (pl_sign z0).2.2 h0
        have d0 : decide (0 ≤ z0) = true := decide_eq_true h0
        rw [e1, e0]
        clear e1 e0
        go_wp2_with fail
        go_region_held3 (fun w' => Below w4.heap.size w4 w' ∧ w'.cell? ⟨ab, ao + k, none⟩ = some (.int .i64 p)) (first | exact ⟨(below_drewN hB6' _).drew, wc6⟩ | exact ⟨e1, KC.out _ e1⟩ | assumption)
          (first
           | (go_at_call 37; refine (R1.out _ (by first | assumption | exact And.left (by assumption))).mono ?_; rintro e w7 ⟨rfl, e1⟩)
           | (go_at_call 38; refine (R2.out _ (by first | assumption | exact And.left (by assumption))).mono ?_; rintro e w7 ⟨rfl, rfl⟩))
        all_goals go_wp2
        all_goals exact ⟨⟨k + 1, by omega, by go_num, by first | exact e1 | assumption⟩, by simp [intOf]; omega⟩
      · have e1 : plErr z1 = 0 := (pl_sign z1).2.2 h1
        have d1 : decide (0 ≤ z1) = true := decide_eq_true h1
        have e0 : plErr z0 = 2 := (pl_sign z0).2.1 h0
        have d0 : decide (0 ≤ z0) = false := decide_eq_false (by omega)
        rw [e1, e0]
        clear e1 e0
        go_wp2_with fail
        go_region_held3 (fun w' => Below w4.heap.size w4 w' ∧ w'.cell? ⟨ab, ao + k, none⟩ = some (.int .i64 p)) (first | exact ⟨(below_drewN hB6' _).drew, wc6⟩ | exact ⟨e1, KC.out _ e1⟩ | assumption)
          (first
           | (go_at_call 37; refine (R1.out _ (by first | assumption | exact And.left (by assumption))).mono ?_; rintro e w7 ⟨rfl, e1⟩)
           | (go_at_call 38; refine (R2.out _ (by first | assumption | exact And.left (by assumption))).mono ?_; rintro e w7 ⟨rfl, rfl⟩))
        all_goals go_wp2
        all_goals exact ⟨⟨k + 1, by omega, by go_num, by first | exact e1 | assumption⟩, by simp [intOf]; omega⟩
      · have e1 : plErr z1 = 0 := (pl_sign z1).2.2 h1
        have d1 : decide (0 ≤ z1) = true := decide_eq_true h1
        have e0 : plErr z0 = 0 := (pl_sign z0).2.2 h0
        have d0 : decide (0 ≤ z0) = true := decide_eq_true h0
        rw [e1, e0]
        clear e1 e0
        go_wp2_with fail
        go_region_held3 (fun w' => Below w4.heap.size w4 w' ∧ w'.cell? ⟨ab, ao + k, none⟩ = some (.int .i64 p)) (first | exact ⟨(below_drewN hB6' _).drew, wc6⟩ | exact ⟨e1, KC.out _ e1⟩ | assumption)
          (first
           | (go_at_call 37; refine (R1.out _ (by first | assumption | exact And.left (by assumption))).mono ?_; rintro e w7 ⟨rfl, e1⟩)
           | (go_at_call 38; refine (R2.out _ (by first | assumption | exact And.left (by assumption))).mono ?_; rintro e w7 ⟨rfl, rfl⟩))
        all_goals go_wp2
        all_goals exact ⟨⟨k + 1, by omega, by go_num, by first | exact e1 | assumption⟩, by simp [intOf]; omega⟩
    · obtain rfl : k = ps.length := by omega
      have hki : ¬ ((ps.length : Int) < (ps.length : Int)) := by omega
      have HO := hid (chOnes_any gc gd g3 A3 c3 bs Ad cd A1 c1 l1 A0 c0 l0 wr hcr)
      have HR := hid (refOnes04_any A2 c2 bs wr hlr (by omega))
      have HSZ := hid (fun W hW => chSize_any gc gd g3 A3 c3 bs Ad cd A1 c1 l1 A0 c0 l0 W hW)
      have k1 := hcr.half1.1
      have k0 := hcr.half0.1
      have kb := kc_both bs
      have hsz4 : 128 * (bs.length / 512 + 1) + 64 * (l1.length + l0.length) ≤ bs.length / 2 + 512 := by omega
      have hszi : ((128 * (bs.length / 512 + 1) + 64 * (l1.length + l0.length) : Nat) : Int) ≤ (bs.length : Int) / 2 + 512 := by omega
      generalize 128 * (bs.length / 512 + 1) + 64 * (l1.length + l0.length) = sz at *
      have hsz0 : (0 : Int) ≤ (sz : Int) := by omega
      clear k1 k0 kb hsz4
      generalize kc true bs bs.length = oo at *
      go_wp2_with fail
      refine HO.out.mono ?_
      rintro e w' ⟨rfl, rfl⟩
      go_wp2_with fail
      refine HR.out.mono ?_
      rintro e w' ⟨rfl, rfl⟩
      go_wp2_with fail
      refine (HSZ.out _ hcr).mono ?_
      rintro e w' ⟨rfl, m7, rfl⟩
      go_wp2_with fail
      refine (HSZ.out _ (by exact hcr)).mono ?_
      rintro e w' ⟨rfl, m8, rfl⟩
      go_wp2
      go_ret
      exact ⟨by first | rfl | go_num, below_drewN (hBb.trans (hB.mono hzb)) _⟩

theorem lawChooseFinds_any (A : Option Addr) (c : Nat) (l : List (Nat × Int)) (B : Option Addr) (d : Nat) (ps : List Int) (w : World) (hl : Lst w A (opCells l)) (hx : ∀ o ∈ l, o.1 < 18446744073709551616) (hps : Lst w B (intCells4 ps)) (hT : Tab w) :
    Calls Tryd.prog 12 #[.slice A l.length c, .slice B ps.length d] w fun e w' => e = .returned (.bool true) ∧ Below w.heap.size w w' := by
  by_cases h : 60 < l.length ∨ 20 < ps.length
  · exact lawChooseFinds_long A l.length c B ps.length d w h hT
  · exact lawChooseFinds_true A c l B d ps w hl hx hps (by omega) (by omega) hT

end Go.Proofs.YtdhokioiloggeaaDoor
