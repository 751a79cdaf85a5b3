/- Walks: the laws ParenCounts and ParenTwo return true. -/
import Derived.Test.YtdhokioiloggeaaParenG
import Derived.Test.YtdhokioiloggeaaLawParts
set_option linter.unusedVariables false
set_option linter.unusedSimpArgs false
set_option maxRecDepth 100000
namespace Go.Proofs.Ytdhokioiloggeaa
open Go.RowKit L

theorem lst_blk {w : World} {g : Nat} {t : TypeId} {cs : Array Value} (h : BlkIs w g t cs) : Lst w (some ⟨g, 0, none⟩) cs.toList := fun i u hi => ⟨_, rfl, by
  rw [add_zero_, h.cell i]; simpa using hi⟩

set_option maxHeartbeats 1000000 in
theorem awake6 (w : World) : Calls Try.prog 47 #[] w fun e w' => e = .returned (.bool true) ∧ Below w.heap.size w w' := by
  have hl : Lst (w.alloc (.cells #[.bool true, .bool true, .bool false, .bool false] 4)) (some ⟨w.heap.size, 0, none⟩) (bools [true, true, false, false]) := lst_blk (BlkIs.new _ _ _)
  have hB0 : Below w.heap.size w (w.alloc (.cells #[.bool true, .bool true, .bool false, .bool false] 4)) := (Below.refl _ _).alloc (Nat.le_refl _) _
  have hm := made_any (some ⟨w.heap.size, 0, none⟩) 4 [true, true, false, false] _ hl (by decide)
  have hz0 := hB0.size
  have HM := hid hm
  clear hm hl
  have HF := hid (show forthN (bitAt [true, true, false, false]) (held [true, true, false, false].length 0) (heldTo [true, true, false, false].length 0 4) 0 = 3 by decide)
  have HB := hid (show bal (bitAt [true, true, false, false]) [true, true, false, false].length = true by decide)
  go_enter Try.func47, Try.ntmps47
  go_wp2_with fail
  refine HM.out.mono ?_
  rintro e w1 ⟨g, A, c, rfl, hr, _, _, hB1⟩
  have hz1 := hB1.size
  have hBa := hB0.trans (hB1.mono hz0)
  go_wp2_with fail
  refine (pForth_any g A c _ _ _ _ _ hr (by omega) (by omega)).mono ?_
  rw [HF.out]
  rintro e w' ⟨rfl, m, rfl⟩
  go_wp2_with fail
  refine (pBalanced_any g A c _ _ (by exact hr)).mono ?_
  rw [HB.out]
  rintro e w' ⟨rfl, m2, rfl⟩
  go_wp2
  go_ret
  exact ⟨rfl, below_drewN hBa _⟩

theorem eq_fl_self (a : Int) (ha : Small a) : (FloatKind.f64.format.order (fl a) (fl a) == some .eq) = true := by rw [eq_fl a a ha ha]; simp

set_option maxHeartbeats 1000000 in
theorem lawParenCounts_long (A : Option Addr) (n c : Nat) (i j : Int) (w : World) (hn : 60 < n) :
    Calls Try.prog 14 #[.slice A n c, .int .i64 i, .int .i64 j] w fun e w' => e = .returned (.bool true) ∧ Below w.heap.size w w' := by
  have h1 : (60 : Int) < (n : Int) := by omega
  go_enter Try.func14, Try.ntmps14
  go_wp2_with fail
  refine (awake6 _).mono ?_
  rintro e w1 ⟨rfl, hB1⟩
  go_wp2_with fail
  refine (awake6 _).mono ?_
  rintro e w2 ⟨rfl, hB2⟩
  go_wp2
  go_ret
  exact ⟨rfl, hB1.trans (hB2.mono hB1.size)⟩

set_option maxHeartbeats 4000000 in
theorem lawParenCounts_true (A : Option Addr) (c : Nat) (l : List (Nat × Int)) (i j : Int) (w : World) (hl : Lst w A (opCells l)) (hx : ∀ o ∈ l, o.1 < 18446744073709551616) (hn : l.length ≤ 60) :
    Calls Try.prog 14 #[.slice A l.length c, .int .i64 i, .int .i64 j] w fun e w' => e = .returned (.bool true) ∧ Below w.heap.size w w' := by
  have hbl := allPuts_length l
  go_enter Try.func14, Try.ntmps14
  go_wp2_with fail
  refine (awake6 _).mono ?_
  rintro e w1 ⟨rfl, hB1⟩
  have hz1 := hB1.size
  go_wp2_with fail
  refine (all_any A c l _ (hl.below hB1) hx hn).mono ?_
  rintro e w2 ⟨A2, c2, rfl, hl2, hA2, hB2, hc2⟩
  have hz2 := hB2.size
  generalize allPuts l = bs at *
  have hbs : bs.length ≤ 3840 := by omega
  go_wp2_with fail
  refine (made_any A2 c2 bs _ hl2 (by omega)).mono ?_
  rintro e w3 ⟨g3, A3, c3, rfl, hr3, _, _, hB3⟩
  have hz3 := hB3.size
  have hBa : Below w.heap.size w w3 := hB1.trans ((hB2.mono hz1).trans (hB3.mono (by omega)))
  have hl3 := hl2.below hB3
  clear hB1 hB2 hB3 hl2 hl
  have k1 := heldTo_le bs.length i j
  have k2 := lo_bound (sh (bitAt bs) (held bs.length i)) (heldTo bs.length i j - held bs.length i)
  have k3 := hi_bound (sh (bitAt bs) (held bs.length i)) (heldTo bs.length i j - held bs.length i)
  have hf1 := eq_fl_self (lo (sh (bitAt bs) (held bs.length i)) (heldTo bs.length i j - held bs.length i)) (small_of (by omega) (by omega))
  have hf2 := eq_fl_self (hi (sh (bitAt bs) (held bs.length i)) (heldTo bs.length i j - held bs.length i)) (small_of (by omega) (by omega))
  have HR := hid (fun W hW => refReach_any A2 c2 bs i j W hW (by omega))
  have HP := hid (fun W hW => pReach_any g3 A3 c3 bs i j W hW)
  have HX := hid (fun W hW => pExcess_any g3 A3 c3 bs i j W hW)
  have HY := hid (fun W hW => refExcess_any A2 c2 bs i j W hW (by omega))
  generalize lo (sh (bitAt bs) (held bs.length i)) (heldTo bs.length i j - held bs.length i) = lo0 at *
  generalize hi (sh (bitAt bs) (held bs.length i)) (heldTo bs.length i j - held bs.length i) = hi0 at *
  generalize ex (sh (bitAt bs) (held bs.length i)) (heldTo bs.length i j - held bs.length i) = ex0 at *
  have hfl : ∀ z, floatOfInt .f64 z = fl z := fun _ => rfl
  go_wp2_with fail
  refine (HR.out _ hl3).mono ?_
  rintro e w' ⟨rfl, rfl⟩
  go_wp2_with fail
  refine (HP.out _ hr3).mono ?_
  rintro e w' ⟨rfl, m1, rfl⟩
  go_wp2_with fail
  refine (HX.out _ (by exact hr3)).mono ?_
  rintro e w' ⟨rfl, m2, rfl⟩
  go_wp2_with fail
  refine (HY.out _ (by exact hl3)).mono ?_
  rintro e w' ⟨rfl, rfl⟩
  go_wp2
  go_ret
  exact ⟨rfl, below_drewN hBa _⟩

theorem lawParenCounts_any (A : Option Addr) (c : Nat) (l : List (Nat × Int)) (i j : Int) (w : World) (hl : Lst w A (opCells l)) (hx : ∀ o ∈ l, o.1 < 18446744073709551616) :
    Calls Try.prog 14 #[.slice A l.length c, .int .i64 i, .int .i64 j] w fun e w' => e = .returned (.bool true) ∧ Below w.heap.size w w' := by
  rcases Nat.lt_or_ge 60 l.length with h | h
  · exact lawParenCounts_long A l.length c i j w h
  · exact lawParenCounts_true A c l i j w hl hx h

end Go.Proofs.Ytdhokioiloggeaa
