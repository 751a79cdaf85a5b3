/- Walks: the laws of chapter 08: awake; NestDeep returns true. -/
import Derived.Test.YtlpnbkfcbamnbaaNestA
import Derived.Test.YtlpnbkfcbamnbaaMount
set_option linter.unusedVariables false
set_option linter.unusedSimpArgs false
set_option maxRecDepth 100000
namespace Go.Proofs.Ytlpnbkfcbamnbaa
open Go.RowKit L

theorem lst_4n {w : World} {g : Nat} {T : TypeId} {x y z u : Value} (h : BlkIs w g T #[x, y, z, u]) : Lst w (some ⟨g, 0, none⟩) [x, y, z, u] := fun i u hi => ⟨_, rfl, by
  rw [add_zero_, h.cell i]; simpa using hi⟩

set_option maxHeartbeats 1000000 in
theorem awake8 (w : World) : Calls Try.prog 23 #[] w fun e w' => e = .returned (.bool true) ∧ Below w.heap.size w w' := by
  have hB0 := (Below.refl w.heap.size w).alloc (Nat.le_refl _) (.cells #[.bool true, .bool true, .bool false, .bool false] 4)
  have hz0 := hB0.size
  have hl : Lst (w.alloc (.cells #[.bool true, .bool true, .bool false, .bool false] 4)) (some ⟨w.heap.size, 0, none⟩) (bools [true, true, false, false]) := lst_4n (BlkIs.new _ _ _)
  have e1 : forthN (bitAt [true, true, false, false]) 0 4 0 = 3 := by decide
  have e2 : bal (bitAt [true, true, false, false]) 4 = true := by decide
  have HCL := hid (fun s W (t : NestAt W s [true, true, false, false]) => show Calls Try.prog 25 #[.pointer (some ⟨s, 0, none⟩), .int .i64 0] W fun e w' => e = .returned (.tuple #[.int .i64 3, .int .i64 0]) ∧ ∃ m, w' = W.drewN m from by
    have := nClose_at s [true, true, false, false] 0 W t (by decide)
    rwa [show ([true, true, false, false] : List Bool).length = 4 from rfl, e1] at this)
  have HNW := hid (fun gx A c W hW => nestNew_any gx A c [true, true, false, false] W hW e2)
  clear e1 e2
  go_enter Try.func23, Try.ntmps23
  go_wp2_with fail
  refine (made_any (some ⟨w.heap.size, 0, none⟩) 4 [true, true, false, false] _ hl (by decide)).mono ?_
  rintro e w1 ⟨g1, A1, c1, rfl, hr1, _, _, hB1⟩
  have hBa := hB0.trans (hB1.mono hz0)
  have hza := hBa.size
  go_wp2_with fail
  refine (HNW.out g1 A1 c1 w1 hr1).mono ?_
  rintro e w2 ⟨s, rfl, ht, hB2⟩
  have hBb := hBa.trans (hB2.mono hza)
  go_wp2_with fail
  refine (HCL.out _ _ ht).mono ?_
  rintro e w3 ⟨rfl, m3, rfl⟩
  go_wp2_with fail
  go_ret
  exact ⟨by first | rfl | simp, below_drewN hBb _⟩

set_option maxHeartbeats 2000000 in
theorem lawNestDeep_any (n i : Nat) (w : World) (hn : n < 65536) (hi : i < 65536) :
    Calls Try.prog 7 #[.int .u16 (n : Nat), .int .u16 (i : Nat)] w fun e w' => e = .returned (.bool true) ∧ Below w.heap.size w w' := by
  obtain ⟨k, hk⟩ : ∃ k, k = 2 + n % 1900 := ⟨_, rfl⟩
  obtain ⟨r, hr⟩ : ∃ r, r = n % 1900 := ⟨_, rfl⟩
  obtain ⟨k1, hk1⟩ : ∃ k1, k1 = k - 1 := ⟨_, rfl⟩
  obtain ⟨q, hq⟩ : ∃ q, q = i % k1 := ⟨_, rfl⟩
  obtain ⟨p, hp⟩ : ∃ p, p = 1 + q := ⟨_, rfl⟩
  have hkb : 2 ≤ k ∧ k ≤ 1901 := by omega
  have hqk : q < k1 := by rw [hq]; exact Nat.mod_lt _ (by omega)
  have hpk : 1 ≤ p ∧ p < k := by omega
  have hrI : (n : Int) % 1900 = (r : Int) := by omega
  have hrw : IntKind.i64.wrap (r : Int) = (r : Int) := by rw [IntKind.wrap_i64]; omega
  have hrw2 : IntKind.u16.wrap (r : Int) = (r : Int) := by rw [IntKind.wrap_u16]; omega
  have hkw : IntKind.i64.wrap (2 + (r : Int)) = (k : Int) := by rw [IntKind.wrap_i64]; omega
  have hk1w : IntKind.i64.wrap ((k : Int) - 1) = (k1 : Int) := by rw [IntKind.wrap_i64]; omega
  have hiw : IntKind.i64.wrap (i : Int) = (i : Int) := by rw [IntKind.wrap_i64]; omega
  have hqI : (i : Int) % (k1 : Int) = (q : Int) := by rw [hq]; norm_cast
  have hqw : IntKind.i64.wrap (q : Int) = (q : Int) := by rw [IntKind.wrap_i64]; omega
  have hpw : IntKind.i64.wrap (1 + (q : Int)) = (p : Int) := by rw [IntKind.wrap_i64]; omega
  have hk0 : ((k1 : Int) == 0) = false := by rw [beq_eq_false_iff_ne]; omega
  have hk0N : ¬ k1 = 0 := by omega
  have hku : IntKind.u16.wrap (k : Int) = (k : Int) := by rw [IntKind.wrap_u16]; omega
  have hr2 : r < 1900 := by omega
  have hk1b : k1 ≤ 1900 := by omega
  clear hk hr hp hq hk1
  have HBT := hid (fun A c W hW => by
    have := pbits_any A c [(true, k), (false, k)] W hW (fun o ho => by simp at ho; rcases ho with rfl | rfl <;> simp <;> omega) (by simp [maxLen])
    rw [mount_pieces k (by omega)] at this; exact this)
  have hlen := mount_length k
  have hml : (mount k).length ≤ 4000 := by omega
  have hbit : bitAt (mount k) p = true := by rw [mount_bit k p (by omega)]; simp; omega
  have hfo : forthN (bitAt (mount k)) p (mount k).length 0 = ((2 * k - p : Nat) : Int) - 1 := forth_is (bitAt (mount k)) p _ (2 * k - p) 0 (by omega) (by omega) (by rw [mount_eb2 k _ _ (by omega) (by omega)]; omega) (fun q q1 q2 => by rw [mount_eb2 k _ _ (by omega) (by omega)]; omega)
  have hbk : backN (bitAt (mount k)) 0 p 1 = ((p - 1 : Nat) : Int) := back_is (bitAt (mount k)) p (p - 1) 1 (by omega) (by rw [mount_eb2 k _ _ (by omega) (by omega)]; omega) (fun q q1 q2 => by omega)
  have HNW := hid (fun gx A c W hW => nestNew_any gx A c (mount k) W hW (mount_bal k))
  have F1 := hid (show ∀ s W, NestAt W s (mount k) → Calls Try.prog 25 #[.pointer (some ⟨s, 0, none⟩), .int .i64 (p : Nat)] W fun e w' => e = .returned (.tuple #[.int .i64 (2 * (k : Int) - 1 - (p : Int)), .int .i64 0]) ∧ ∃ m, w' = W.drewN m from fun s W t => by
    have := nClose_at s (mount k) p W t hbit
    rwa [hfo, show (((2 * k - p : Nat) : Int)) - 1 = 2 * (k : Int) - 1 - (p : Int) by omega] at this)
  have F2 := hid (show ∀ s W, NestAt W s (mount k) → Calls Try.prog 26 #[.pointer (some ⟨s, 0, none⟩), .int .i64 (p : Nat)] W fun e w' => e = .returned (.tuple #[.int .i64 ((p : Int) - 1), .int .i64 0]) ∧ ∃ m, w' = W.drewN m from fun s W t => by
    have := nParent_at s (mount k) p (p - 1) W t hbit hbk
    rwa [show ((p - 1 : Nat) : Int) = (p : Int) - 1 by omega] at this)
  have F3 := hid (show ∀ s W, NestAt W s (mount k) → Calls Try.prog 27 #[.pointer (some ⟨s, 0, none⟩), .int .i64 (p : Nat)] W fun e w' => e = .returned (.tuple #[.int .i64 (p : Nat), .int .i64 0]) ∧ ∃ m, w' = W.drewN m from fun s W t => by
    have := nDepth_at s (mount k) p W t hbit
    rwa [mount_eb k p (by omega), show min (p : Int) (2 * (k : Int) - p) = p by omega] at this)
  have F4 := hid (show ∀ s W, NestAt W s (mount k) → Calls Try.prog 28 #[.pointer (some ⟨s, 0, none⟩), .int .i64 (p : Nat)] W fun e w' => e = .returned (.tuple #[.int .i64 0, .int .i64 7]) ∧ ∃ m, w' = W.drewN m from fun s W t => by
    exact nNext_none s (mount k) p (2 * k - p) W t hbit hfo (by omega) (by rw [mount_bit k _ (by omega)]; simp; omega))
  clear hlen hbit hfo hbk
  generalize mount k = bs at *
  have w1' : IntKind.i64.wrap (2 * (k : Int)) = 2 * (k : Int) := by rw [IntKind.wrap_i64]; omega
  have w2' : IntKind.i64.wrap (2 * (k : Int) - 1) = 2 * (k : Int) - 1 := by rw [IntKind.wrap_i64]; omega
  have w3' : IntKind.i64.wrap (2 * (k : Int) - 1 - (p : Int)) = 2 * (k : Int) - 1 - (p : Int) := by rw [IntKind.wrap_i64]; omega
  have w4' : IntKind.i64.wrap ((p : Int) - 1) = (p : Int) - 1 := by rw [IntKind.wrap_i64]; omega
  go_enter Try.func7, Try.ntmps7
  go_wp2_with fail
  refine (awake8 _).mono ?_
  rintro e w1 ⟨rfl, hB1⟩
  have hz1 := hB1.size
  have hB2 := hB1.alloc hz1 (.cells #[.bool true, .int .u16 (k : Nat), .bool false, .int .u16 (k : Nat)] 38)
  have hz2 := hB2.size
  have hl2 : Lst (w1.alloc (.cells #[.bool true, .int .u16 (k : Nat), .bool false, .int .u16 (k : Nat)] 38)) (some ⟨w1.heap.size, 0, none⟩) (pcCells [(true, k), (false, k)]) := lst_4n (BlkIs.new _ _ _)
  go_wp2_with fail
  refine (HBT.out _ 2 _ hl2).mono ?_
  rintro e w3 ⟨A3, c3, rfl, hl3, hB3⟩
  have hBb := hB2.trans (hB3.mono hz2)
  have hzb := hBb.size
  go_wp2_with fail
  refine (made_any A3 c3 bs _ hl3 (by omega)).mono ?_
  rintro e w4 ⟨gx, Ax, cx', rfl, hr4, _, _, hB4⟩
  have hBc := hBb.trans (hB4.mono hzb)
  have hzc := hBc.size
  go_wp2_with fail
  refine (HNW.out gx Ax cx' w4 hr4).mono ?_
  rintro e w5 ⟨s, rfl, ht, hB5⟩
  have hBd := hBc.trans (hB5.mono hzc)
  clear hzc hB1 hB2 hB3 hB4 hB5 hBb hBc hl2 hl3 hr4
  have b1 : ((2 * (k : Int) - 1 - (p : Int)) == (2 * (k : Int) - 1 - (p : Int))) = true := by simp
  have b2 : ((p : Int) == (p : Int)) = true := by simp
  have b3 : ((p : Int) - 1 == (p : Int) - 1) = true := by simp
  go_wp2_with fail
  refine (F1.out _ _ ht).mono ?_
  rintro e w' ⟨rfl, m1, rfl⟩
  go_wp2_with fail
  refine (F2.out _ _ (by exact ht)).mono ?_
  rintro e w' ⟨rfl, m2, rfl⟩
  go_wp2_with fail
  refine (F3.out _ _ (by exact ht)).mono ?_
  rintro e w' ⟨rfl, m3, rfl⟩
  go_wp2_with fail
  refine (F4.out _ _ (by exact ht)).mono ?_
  rintro e w' ⟨rfl, m4, rfl⟩
  go_wp2_with fail
  go_ret
  exact ⟨by first | rfl | simp, below_drewN hBd _⟩
end Go.Proofs.Ytlpnbkfcbamnbaa
