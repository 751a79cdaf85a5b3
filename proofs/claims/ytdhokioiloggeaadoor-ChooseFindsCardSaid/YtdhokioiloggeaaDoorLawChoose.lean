/- Walks: the laws ChooseEach and ChooseTurned return true. -/
import Derived.Test.YtdhokioiloggeaaDoorChooseF
import Derived.OwnWalk
set_option linter.unusedVariables false
set_option linter.unusedSimpArgs false
set_option maxRecDepth 100000
namespace Go.Proofs.YtdhokioiloggeaaDoor
open Go.RowKit Go.Shelf L

theorem lst_blk4 {w : World} {g : Nat} {t : TypeId} {cs : Array Value} (h : BlkIs w g t cs) : Lst w (some ⟨g, 0, none⟩) cs.toList := fun i u hi => ⟨_, rfl, by
  rw [add_zero_, h.cell i]; simpa using hi⟩

set_option maxHeartbeats 1000000 in
theorem awake4 (w : World) (hT : Tab w) : Calls Tryd.prog 28 #[] w fun e w' => e = .returned (.bool true) ∧ Below w.heap.size w w' := by
  have hl : Lst (w.alloc (.cells #[.bool true, .bool false, .bool true, .bool true] 4)) (some ⟨w.heap.size, 0, none⟩) (bools [true, false, true, true]) := lst_blk4 (BlkIs.new _ _ _)
  have hB0 : Below w.heap.size w (w.alloc (.cells #[.bool true, .bool false, .bool true, .bool true] 4)) := (Below.refl _ _).alloc (Nat.le_refl _) _
  have hm := made_any (some ⟨w.heap.size, 0, none⟩) 4 [true, false, true, true] _ hl (by decide)
  have hz0 := hB0.size
  have HM := hid hm
  clear hm hl
  have HP := hid (show max (pl true [true, false, true, true] 1) 0 = 2 ∧ plErr (pl true [true, false, true, true] 1) = 0 by decide)
  go_enter Tryd.func28, Tryd.ntmps28
  go_wp2_with fail
  refine HM.out.mono ?_
  rintro e w1 ⟨g, A, c, rfl, hr, _, _, hB1⟩
  have hBa := hB0.trans (hB1.mono hz0)
  have hza := hBa.size
  go_wp2_with fail
  refine (chooseNew_any g A c _ _ hr).mono ?_
  rintro e w2 ⟨gc, gd, Ad, cd, A1, c1, l1, A0, c0, l0, rfl, hc, hB2, _⟩
  have hBb := hBa.trans (hB2.mono hza)
  have hzb := hBb.size
  go_wp2_with fail
  refine (chOne_any gc gd g A c _ Ad cd A1 c1 l1 A0 c0 l0 1 _ hc (hT.below hBb)).mono ?_
  rw [HP.out.1, HP.out.2]
  rintro e w3 ⟨rfl, hB3⟩
  go_wp2
  go_ret
  exact ⟨rfl, hBb.trans (hB3.mono hzb)⟩

set_option maxHeartbeats 1000000 in
theorem lawChooseEach_long (A : Option Addr) (n c : Nat) (w : World) (hn : 60 < n) (hT : Tab w) :
    Calls Tryd.prog 10 #[.slice A n c] w fun e w' => e = .returned (.bool true) ∧ Below w.heap.size w w' := by
  have h1 : (60 : Int) < (n : Int) := by omega
  go_enter Tryd.func10, Tryd.ntmps10
  go_wp2_with fail
  refine (awake4 _ hT).mono ?_
  rintro e w1 ⟨rfl, hB1⟩
  go_wp2_with fail
  refine (awake4 _ (hT.below hB1)).mono ?_
  rintro e w2 ⟨rfl, hB2⟩
  go_wp2
  go_ret
  exact ⟨rfl, hB1.trans (hB2.mono hB1.size)⟩

set_option maxHeartbeats 8000000 in
theorem lawChooseEach_true (A : Option Addr) (c : Nat) (l : List (Nat × Int)) (w : World) (hl : Lst w A (opCells l)) (hx : ∀ o ∈ l, o.1 < 18446744073709551616) (hn : l.length ≤ 60) (hT : Tab w) :
    Calls Tryd.prog 10 #[.slice A l.length c] w fun e w' => e = .returned (.bool true) ∧ Below w.heap.size w w' := by
  have hbl := allPuts_length l
  go_enter Tryd.func10, Tryd.ntmps10
  go_wp2_with fail
  refine (awake4 _ hT).mono ?_
  rintro e w1 ⟨rfl, hB1⟩
  have hz1 := hB1.size
  go_wp2_with fail
  refine (all_any A c l _ (hl.below hB1) hx hn).mono ?_
  rintro e w2 ⟨A2, c2, rfl, hl2, hA2, hB2, hc2⟩
  have hz2 := hB2.size
  generalize allPuts l = bs at *
  have hbs : bs.length ≤ 3840 := by omega
  go_wp2_with fail
  refine (made_any A2 c2 bs _ hl2 (by omega)).mono ?_
  rintro e w3 ⟨g3, A3, c3, rfl, hr3, _, _, hB3⟩
  have hz3 := hB3.size
  have hBa : Below w.heap.size w w3 := hB1.trans ((hB2.mono hz1).trans (hB3.mono (by omega)))
  have hza := hBa.size
  have hl3 := hl2.below hB3
  clear hB1 hB2 hB3 hl2 hl
  go_wp2_with fail
  refine (chooseNew_any g3 A3 c3 bs _ hr3).mono ?_
  rintro e w4 ⟨gc, gd, Ad, cd, A1, c1, l1, A0, c0, l0, rfl, hc, hB4, _⟩
  have hBb := hBa.trans (hB4.mono hza)
  have hzb := hBb.size
  have hl4 := hl3.below hB4
  have hT4 := hT.below hBb
  clear hB4 hBa hl3 hr3
  go_wp2_with fail
  go_loopw [5, 6, 7] (fun o z i wr => ∃ j : Nat, j ≤ bs.length ∧ i = .int .i64 (j : Nat) ∧ o = .int .i64 (kc true bs j : Nat) ∧ z = .int .i64 (kc false bs j : Nat) ∧ Below w4.heap.size w4 wr) (fun _ _ i _ => bs.length - (intOf i).toNat)
  case atStart => exact ⟨0, by omega, rfl, rfl, rfl, Below.refl _ _⟩
  case round =>
    obtain ⟨j, hj, rfl, rfl, rfl, hB⟩ := hrel
    have hsz := hB.size
    have hcr := hc.below hB
    have hTr := hT4.below hB
    have ko := kc_le true bs j
    have kz := kc_le false bs j
    rcases Nat.lt_or_ge j bs.length with hlt | hge
    · have q0 := bools_get bs (i := j) (by omega)
      obtain ⟨ab, ao, rfl, had, hcl⟩ := hl4.lit (by rw [bools_length]; omega)
      have wc := (hB.cell (p := ⟨ab, ao + j, none⟩) had).trans (hcl _ _ q0)
      have hki : (j : Int) < (bs.length : Int) := by omega
      have hk0 : (0 : Int) ≤ (j : Int) := by omega
      have HN1 := hid (kc_next true bs j hlt)
      have HN0 := hid (kc_next false bs j hlt)
      clear hcl q0
      cases hbt : bitAt bs j
      · rw [hbt] at wc HN1 HN0
        have HX := hid (chZero_at gc gd g3 A3 c3 bs Ad cd A1 c1 l1 A0 c0 l0 (kc false bs j) j wr hcr hTr hlt hbt rfl)
        have HM1 := hid (show kc true bs (j + 1) = kc true bs j by rw [HN1.out]; rfl)
        have HM0 := hid (show kc false bs (j + 1) = kc false bs j + 1 by rw [HN0.out]; rfl)
        clear hbt
        go_wp2_with fail
        refine HX.out.mono ?_
        rintro e w5 ⟨rfl, hB5⟩
        have hB6 := hB.trans (hB5.mono hsz)
        go_wp2
        go_roundw
        case rel => exact ⟨j + 1, by omega, by go_num, by rw [HM1.out], by rw [HM0.out]; go_num, hB6⟩
        case measure => simp [intOf]; omega
      · rw [hbt] at wc HN1 HN0
        have HX := hid (chOne_at gc gd g3 A3 c3 bs Ad cd A1 c1 l1 A0 c0 l0 (kc true bs j) j wr hcr hTr hlt hbt rfl)
        have HM1 := hid (show kc true bs (j + 1) = kc true bs j + 1 by rw [HN1.out]; rfl)
        have HM0 := hid (show kc false bs (j + 1) = kc false bs j by rw [HN0.out]; rfl)
        clear hbt
        go_wp2_with fail
        refine HX.out.mono ?_
        rintro e w5 ⟨rfl, hB5⟩
        have hB6 := hB.trans (hB5.mono hsz)
        go_wp2
        go_roundw
        case rel => exact ⟨j + 1, by omega, by go_num, by rw [HM1.out]; go_num, by rw [HM0.out], hB6⟩
        case measure => simp [intOf]; omega
    · obtain rfl : j = bs.length := by omega
      have H1 := hid (chOne_none gc gd g3 A3 c3 bs Ad cd A1 c1 l1 A0 c0 l0 (kc true bs bs.length : Nat) wr hcr (Or.inr (by omega)))
      have H0 := hid (chZero_none gc gd g3 A3 c3 bs Ad cd A1 c1 l1 A0 c0 l0 (kc false bs bs.length : Nat) wr hcr (Or.inr (by omega)))
      have HO := hid (chOnes_any gc gd g3 A3 c3 bs Ad cd A1 c1 l1 A0 c0 l0 wr hcr)
      go_wp2_with fail
      refine H1.out.mono ?_
      rintro e w' ⟨rfl, rfl⟩
      go_wp2_with fail
      refine H0.out.mono ?_
      rintro e w' ⟨rfl, rfl⟩
      go_wp2_with fail
      refine HO.out.mono ?_
      rintro e w' ⟨rfl, rfl⟩
      go_wp2
      go_ret
      exact ⟨by first | rfl | exact ret_bool' (by simp), hBb.trans (hB.mono hzb)⟩

theorem lawChooseEach_any (A : Option Addr) (c : Nat) (l : List (Nat × Int)) (w : World) (hl : Lst w A (opCells l)) (hx : ∀ o ∈ l, o.1 < 18446744073709551616) (hT : Tab w) :
    Calls Tryd.prog 10 #[.slice A l.length c] w fun e w' => e = .returned (.bool true) ∧ Below w.heap.size w w' := by
  rcases Nat.lt_or_ge 60 l.length with h | h
  · exact lawChooseEach_long A l.length c w h hT
  · exact lawChooseEach_true A c l w hl hx h hT

end Go.Proofs.YtdhokioiloggeaaDoor
