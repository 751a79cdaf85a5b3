/- Walks: the laws of ranks return true. -/
import Derived.Test.YtdhokioiloggeaaRankB
import Derived.Deep.RegionHeld3
set_option linter.unusedVariables false
set_option linter.unusedSimpArgs false
set_option maxRecDepth 100000
namespace Go.Proofs.Ytdhokioiloggeaa
open Go.RowKit L

theorem Lst.of_blk {w : World} {g : Nat} {t : TypeId} {cs : Array Value} (h : BlkIs w g t cs) : Lst w (some ⟨g, 0, none⟩) cs.toList := fun i u hi => ⟨_, rfl, by
  rw [add_zero_, h.cell i]; simpa using hi⟩

set_option maxHeartbeats 1000000 in
theorem awake3 (w : World) : Calls Try.prog 39 #[] w fun e w' => e = .returned (.bool true) ∧ Below w.heap.size w w' := by
  have hl : Lst (w.alloc (.cells #[.bool true, .bool false, .bool true, .bool true] 4)) (some ⟨w.heap.size, 0, none⟩) (bools [true, false, true, true]) := Lst.of_blk (BlkIs.new _ _ _)
  have hB0 : Below w.heap.size w (w.alloc (.cells #[.bool true, .bool false, .bool true, .bool true] 4)) := (Below.refl _ _).alloc (Nat.le_refl _) _
  have hm := made_any (some ⟨w.heap.size, 0, none⟩) 4 [true, false, true, true] _ hl (by decide)
  have hz0 := hB0.size
  have HM := hid hm
  clear hm hl
  go_enter Try.func39, Try.ntmps39
  go_wp2_with fail
  refine HM.out.mono ?_
  rintro e w1 ⟨g, A, c, rfl, hr, _, _, hB1⟩
  have hz1 := hB1.size
  have hBa := hB0.trans (hB1.mono hz0)
  go_wp2_with fail
  refine (rankNew_any g A c _ _ hr).mono ?_
  rintro e w2 ⟨Ad, cd, rfl, hd, hB2⟩
  have hz2 := hB2.size
  have hBb := hBa.trans (hB2.mono (by omega))
  go_wp2_with fail
  refine (rankOne_any _ _ _ _ _ _ _ 3 _ hd).mono ?_
  rw [show cnt [true, false, true, true] (held [true, false, true, true].length 3) = 2 from by decide]
  rintro e w3 ⟨rfl, hB3⟩
  have hd3 := hd.below hB3
  have hz3 := hB3.size
  have hBc := hBb.trans (hB3.mono (by omega))
  go_wp2_with fail
  refine (rankZero_any _ _ _ _ _ _ _ 3 _ hd3).mono ?_
  rw [show held [true, false, true, true].length 3 - cnt [true, false, true, true] (held [true, false, true, true].length 3) = 1 from by decide]
  rintro e w4 ⟨rfl, hB4⟩
  go_wp2
  go_ret
  exact ⟨rfl, hBc.trans (hB4.mono (by omega))⟩

/-- The directory of a row that has been made. -/
theorem dir_of (w0 : World) (A : Option Addr) (c : Nat) (bs : List Bool) : True := trivial

set_option maxHeartbeats 2000000 in
theorem lawRankEach_long (A : Option Addr) (n c : Nat) (w : World) (hn : 60 < n) :
    Calls Try.prog 9 #[.slice A n c] w fun e w' => e = .returned (.bool true) ∧ Below w.heap.size w w' := by
  have h1 : (60 : Int) < (n : Int) := by omega
  go_enter Try.func9, Try.ntmps9
  go_wp2_with fail
  refine (awake3 _).mono ?_
  rintro e w1 ⟨rfl, hB1⟩
  go_wp2_with fail
  refine (awake3 _).mono ?_
  rintro e w2 ⟨rfl, hB2⟩
  go_wp2
  go_ret
  exact ⟨rfl, hB1.trans (hB2.mono hB1.size)⟩

set_option maxHeartbeats 4000000 in
theorem lawRankEach_true (A : Option Addr) (c : Nat) (l : List (Nat × Int)) (w : World) (hl : Lst w A (opCells l)) (hx : ∀ o ∈ l, o.1 < 18446744073709551616) (hn : l.length ≤ 60) :
    Calls Try.prog 9 #[.slice A l.length c] w fun e w' => e = .returned (.bool true) ∧ Below w.heap.size w w' := by
  have hbl := allPuts_length l
  go_enter Try.func9, Try.ntmps9
  go_wp2_with fail
  refine (awake3 _).mono ?_
  rintro e w1 ⟨rfl, hB1⟩
  have hz1 := hB1.size
  go_wp2_with fail
  refine (all_any A c l _ (hl.below hB1) hx hn).mono ?_
  rintro e w2 ⟨A2, c2, rfl, hl2, hA2, hB2, hc2⟩
  have hz2 := hB2.size
  generalize allPuts l = bs at *
  have hbs : bs.length ≤ 3840 := by omega
  go_wp2_with fail
  refine (made_any A2 c2 bs _ hl2 (by omega)).mono ?_
  rintro e w3 ⟨g3, A3, c3, rfl, hr3, _, _, hB3⟩
  have hz3 := hB3.size
  have hl3 := hl2.below hB3
  go_wp2_with fail
  refine (rankNew_any g3 A3 c3 bs _ hr3).mono ?_
  rintro e w4 ⟨Ad, cd, rfl, hd, hB4⟩
  have hz4 := hB4.size
  have hl4 := hl3.below hB4
  have hBa : Below w.heap.size w w4 := hB1.trans ((hB2.mono hz1).trans ((hB3.mono (by omega)).trans (hB4.mono (by omega))))
  have hza := hBa.size
  clear hB1 hB2 hB3 hB4 hl2 hl3 hr3
  go_wp2_with fail
  go_loopw [5, 6, 7] (fun one zero i wr => ∃ k : Nat, k ≤ bs.length ∧ one = .int .i64 (cnt bs k : Nat) ∧ zero = .int .i64 (k - cnt bs k : Nat) ∧ i = .int .i64 k ∧ Below w4.heap.size w4 wr) (fun _ _ i _ => bs.length - (intOf i).toNat)
  case atStart => exact ⟨0, by omega, rfl, rfl, rfl, Below.refl _ _⟩
  case round =>
    obtain ⟨k, hk, rfl, rfl, rfl, hB⟩ := hrel
    have hsz := hB.size
    have hdr := hd.below hB
    have hlr := hl4.below hB
    have hck := cnt_le bs k
    have HH := hid (held_nat bs.length k hk)
    rcases Nat.lt_or_ge k bs.length with hlt | hge
    · have hki : (k : Int) < (bs.length : Int) := by omega
      have HC := hid (show cnt bs (k + 1) = cnt bs k + (bitAt bs k).toNat from rfl)
      go_wp2_with fail
      refine (rankOne_any _ _ _ _ _ _ _ _ _ hdr).mono ?_
      rw [HH.out]
      rintro e w5 ⟨rfl, hB5⟩
      have hz5 := hB5.size
      have hdr5 := hdr.below hB5
      go_wp2_with fail
      refine (rankZero_any _ _ _ _ _ _ _ _ _ hdr5).mono ?_
      rw [HH.out]
      rintro e w6 ⟨rfl, hB6⟩
      have hB46 := hB.trans ((hB5.mono hsz).trans (hB6.mono (by omega)))
      obtain ⟨ad, rfl, hc⟩ := (hl4.below hB46) k (.bool (bitAt bs k)) (bools_get bs hlt)
      rcases hb : bitAt bs k with _ | _
      · rw [hb] at hc
        rw [hb] at HC
        clear hb
        go_wp2
        go_roundw
        case rel => exact ⟨k + 1, by omega, by rw [HC.out]; simp, by rw [HC.out]; go_num, by go_num, hB46⟩
        case measure => simp [intOf]; omega
      · rw [hb] at hc
        rw [hb] at HC
        clear hb
        go_wp2
        go_roundw
        case rel => exact ⟨k + 1, by omega, by rw [HC.out]; go_num, by rw [HC.out]; simp [Nat.add_sub_add_right], by go_num, hB46⟩
        case measure => simp [intOf]; omega
    · obtain rfl : k = bs.length := by omega
      go_wp2_with fail
      refine (rankOne_any _ _ _ _ _ _ _ _ _ hdr).mono ?_
      rw [HH.out]
      rintro e w5 ⟨rfl, hB5⟩
      have hz5 := hB5.size
      have hdr5 := hdr.below hB5
      go_wp2_with fail
      refine (rankZero_any _ _ _ _ _ _ _ _ _ hdr5).mono ?_
      rw [HH.out]
      rintro e w6 ⟨rfl, hB6⟩
      have hB46 := hB.trans ((hB5.mono hsz).trans (hB6.mono (by omega)))
      have hs1 : IntKind.i64.wrap (((cnt bs bs.length : Nat) : Int) + ((bs.length - cnt bs bs.length : Nat) : Int)) = ((bs.length : Nat) : Int) := by rw [IntKind.wrap_i64]; omega
      go_wp2
      go_ret
      exact ⟨by go_num, hBa.trans (hB46.mono hza)⟩

theorem lawRankEach_any (A : Option Addr) (c : Nat) (l : List (Nat × Int)) (w : World) (hl : Lst w A (opCells l)) (hx : ∀ o ∈ l, o.1 < 18446744073709551616) :
    Calls Try.prog 9 #[.slice A l.length c] w fun e w' => e = .returned (.bool true) ∧ Below w.heap.size w w' := by
  rcases Nat.lt_or_ge 60 l.length with h | h
  · exact lawRankEach_long A l.length c w h
  · exact lawRankEach_true A c l w hl hx h

end Go.Proofs.Ytdhokioiloggeaa
