/- Walks: the law MinmaxPairs returns true. -/
import Derived.Test.YtlpnbkfcbamnbaaLawMinB
import Derived.Test.YtlpnbkfcbamnbaaMount
set_option linter.unusedVariables false
set_option linter.unusedSimpArgs false
set_option maxRecDepth 100000
namespace Go.Proofs.Ytlpnbkfcbamnbaa
open Go.RowKit L

set_option maxHeartbeats 2000000 in
theorem lawMinPairs_any (n i : Nat) (w : World) (hn : n < 65536) (hi : i < 65536) :
    Calls Try.prog 5 #[.int .u16 (n : Nat), .int .u16 (i : Nat)] w fun e w' => e = .returned (.bool true) ∧ Below w.heap.size w w' := by
  obtain ⟨k, hk⟩ : ∃ k, k = 1 + n % 2000 := ⟨_, rfl⟩
  obtain ⟨r, hr⟩ : ∃ r, r = n % 2000 := ⟨_, rfl⟩
  obtain ⟨p, hp⟩ : ∃ p, p = i % k := ⟨_, rfl⟩
  have hkb : 1 ≤ k ∧ k ≤ 2000 := by omega
  have hpk : p < k := by rw [hp]; exact Nat.mod_lt _ (by omega)
  have hrI : (n : Int) % 2000 = (r : Int) := by omega
  have hrw : IntKind.i64.wrap (r : Int) = (r : Int) := by rw [IntKind.wrap_i64]; omega
  have hrw2 : IntKind.u16.wrap (r : Int) = (r : Int) := by rw [IntKind.wrap_u16]; omega
  have hkw : IntKind.i64.wrap (1 + (r : Int)) = (k : Int) := by rw [IntKind.wrap_i64]; omega
  have hiw : IntKind.i64.wrap (i : Int) = (i : Int) := by rw [IntKind.wrap_i64]; omega
  have hpI : (i : Int) % (k : Int) = (p : Int) := by rw [hp]; norm_cast
  have hpw : IntKind.i64.wrap (p : Int) = (p : Int) := by rw [IntKind.wrap_i64]; omega
  have hk0 : ((k : Int) == 0) = false := by rw [beq_eq_false_iff_ne]; omega
  have hk0N : ¬ k = 0 := by omega
  have hku : IntKind.u16.wrap (k : Int) = (k : Int) := by rw [IntKind.wrap_u16]; omega
  have hr2 : r < 2000 := by omega
  clear hk hr hp
  have HBT := hid (fun A c W hW => by
    have := pbits_any A c [(true, k), (false, k)] W hW (fun o ho => by simp at ho; rcases ho with rfl | rfl <;> simp <;> omega) (by simp [maxLen])
    rw [mount_pieces k hkb.2] at this; exact this)
  have hlen := mount_length k
  have hml : (mount k).length ≤ 4000 := by omega
  have F1 := hid (show ∀ g gl gx A c h W, TreeAt W g gl gx A c (mount k) h → Calls Try.prog 12 #[.pointer (some ⟨g, 0, none⟩), .int .i64 (p : Nat), .int .i64 0] W fun e w' => e = .returned (.int .i64 (2 * (k : Int) - 1 - (p : Int))) ∧ ∃ m, w' = W.drewN m from fun g gl gx A c h W t => by
    have := mmForth_any g gl gx A c (mount k) h (p : Nat) 0 W t (by omega) (by omega)
    rw [show held (mount k).length (p : Nat) = p by unfold held; omega, forth_is (bitAt (mount k)) p _ (2 * k - p) 0 (by omega) (by omega) (by rw [mount_eb2 k _ _ (by omega) (by omega)]; omega) (fun q q1 q2 => by rw [mount_eb2 k _ _ (by omega) (by omega)]; omega)] at this
    rwa [show (((2 * k - p : Nat) : Int)) - 1 = 2 * (k : Int) - 1 - (p : Int) by omega] at this)
  have F2 := hid (show ∀ g gl gx A c h W, TreeAt W g gl gx A c (mount k) h → Calls Try.prog 14 #[.pointer (some ⟨g, 0, none⟩), .int .i64 (2 * (k : Int) - (p : Int)), .int .i64 0] W fun e w' => e = .returned (.int .i64 (p : Nat)) ∧ ∃ m, w' = W.drewN m from fun g gl gx A c h W t => by
    have := mmBack_any g gl gx A c (mount k) h (2 * (k : Int) - (p : Int)) 0 W t (by omega) (by omega)
    rwa [show held (mount k).length (2 * (k : Int) - (p : Int)) = 2 * k - p by unfold held; omega, back_is (bitAt (mount k)) (2 * k - p) p 0 (by omega) (by rw [mount_eb2 k _ _ (by omega) (by omega)]; omega) (fun q q1 q2 => by rw [mount_eb2 k _ _ (by omega) (by omega)]; omega)] at this)
  have F3 := hid (show ∀ g gl gx A c h W, TreeAt W g gl gx A c (mount k) h → Calls Try.prog 15 #[.pointer (some ⟨g, 0, none⟩)] W fun e w' => e = .returned (.bool true) ∧ W = w' from fun g gl gx A c h W t => by
    have := mmBalanced_any g gl gx A c (mount k) h W t
    rwa [mount_bal] at this)
  have F4 := hid (show ∀ g gl gx A c h W, TreeAt W g gl gx A c (mount k) h → Calls Try.prog 13 #[.pointer (some ⟨g, 0, none⟩), .int .i64 (p : Nat)] W fun e w' => e = .returned (.int .i64 (p : Nat)) ∧ ∃ m, w' = W.drewN m from fun g gl gx A c h W t => by
    have := mmExcess_any g gl gx A c (mount k) h (p : Nat) W t
    rwa [show held (mount k).length (p : Nat) = p by unfold held; omega, mount_eb k p (by omega), show min (p : Int) (2 * (k : Int) - p) = p by omega] at this)
  have F5 := hid (show ∀ g gl gx A c h W, TreeAt W g gl gx A c (mount k) h → Calls Try.prog 12 #[.pointer (some ⟨g, 0, none⟩), .int .i64 (p : Nat), .int .i64 ((k : Int) + 1)] W fun e w' => e = .returned (.int .i64 (-1)) ∧ ∃ m, w' = W.drewN m from fun g gl gx A c h W t => by
    have := mmForth_any g gl gx A c (mount k) h (p : Nat) ((k : Int) + 1) W t (by omega) (by omega)
    rwa [show held (mount k).length (p : Nat) = p by unfold held; omega, forth_no (bitAt (mount k)) p _ _ (fun q q1 q2 => by rw [mount_eb2 k _ _ (by omega) (by omega)]; omega)] at this)
  clear hlen
  generalize mount k = bs at *
  have w1' : IntKind.i64.wrap (2 * (k : Int)) = 2 * (k : Int) := by rw [IntKind.wrap_i64]; omega
  have w2' : IntKind.i64.wrap (2 * (k : Int) - 1) = 2 * (k : Int) - 1 := by rw [IntKind.wrap_i64]; omega
  have w3' : IntKind.i64.wrap (2 * (k : Int) - 1 - (p : Int)) = 2 * (k : Int) - 1 - (p : Int) := by rw [IntKind.wrap_i64]; omega
  have w4' : IntKind.i64.wrap (2 * (k : Int) - (p : Int)) = 2 * (k : Int) - (p : Int) := by rw [IntKind.wrap_i64]; omega
  have w5' : IntKind.i64.wrap ((k : Int) + 1) = (k : Int) + 1 := by rw [IntKind.wrap_i64]; omega
  go_enter Try.func5, Try.ntmps5
  go_wp2_with fail
  refine (awake7 _).mono ?_
  rintro e w1 ⟨rfl, hB1⟩
  have hz1 := hB1.size
  have hB2 := hB1.alloc hz1 (.cells #[.bool true, .int .u16 (k : Nat), .bool false, .int .u16 (k : Nat)] 38)
  have hz2 := hB2.size
  have hl2 : Lst (w1.alloc (.cells #[.bool true, .int .u16 (k : Nat), .bool false, .int .u16 (k : Nat)] 38)) (some ⟨w1.heap.size, 0, none⟩) (pcCells [(true, k), (false, k)]) := lst_4 (BlkIs.new _ _ _)
  go_wp2_with fail
  refine (HBT.out _ 2 _ hl2).mono ?_
  rintro e w3 ⟨A3, c3, rfl, hl3, hB3⟩
  have hBb := hB2.trans (hB3.mono hz2)
  have hzb := hBb.size
  go_wp2_with fail
  refine (made_any A3 c3 bs _ hl3 (by omega)).mono ?_
  rintro e w4 ⟨gx, Ax, cx', rfl, hr4, _, _, hB4⟩
  have hBc := hBb.trans (hB4.mono hzb)
  have hzc := hBc.size
  go_wp2_with fail
  refine (mmNew_any gx Ax cx' bs w4 hr4).mono ?_
  rintro e w5 ⟨gl, h, rfl, ht, hB5⟩
  have hBd := hBc.trans (hB5.mono hzc)
  obtain ⟨g, hg⟩ : ∃ g, g = w4.heap.size := ⟨_, rfl⟩
  rw [← hg] at ht ⊢
  clear hg hzc hB1 hB2 hB3 hB4 hB5 hBb hBc hl2 hl3 hr4
  have b1 : ((2 * (k : Int) - 1 - (p : Int)) == (2 * (k : Int) - 1 - (p : Int))) = true := by simp
  have b2 : ((p : Int) == (p : Int)) = true := by simp
  go_wp2_with fail
  refine (F1.out _ _ _ _ _ _ _ ht).mono ?_
  rintro e w' ⟨rfl, m1, rfl⟩
  go_wp2_with fail
  refine (F2.out _ _ _ _ _ _ _ (by exact ht)).mono ?_
  rintro e w' ⟨rfl, m2, rfl⟩
  go_wp2_with fail
  refine (F3.out _ _ _ _ _ _ _ (by exact ht)).mono ?_
  rintro e w' ⟨rfl, rfl⟩
  go_wp2_with fail
  refine (F4.out _ _ _ _ _ _ _ (by exact ht)).mono ?_
  rintro e w' ⟨rfl, m4, rfl⟩
  go_wp2_with fail
  refine (F5.out _ _ _ _ _ _ _ (by exact ht)).mono ?_
  rintro e w' ⟨rfl, m5, rfl⟩
  go_wp2_with fail
  go_ret
  exact ⟨by first | rfl | simp, below_drewN hBd _⟩
end Go.Proofs.Ytlpnbkfcbamnbaa
