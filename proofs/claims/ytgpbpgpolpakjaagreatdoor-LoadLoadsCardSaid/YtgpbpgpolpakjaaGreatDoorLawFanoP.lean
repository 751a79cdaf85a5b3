/- Proof text. -/
import Derived.Test.YtgpbpgpolpakjaaGreatDoorFanoQ
import Derived.Lib.QuietBelow
set_option maxHeartbeats 1000000
set_option linter.unusedVariables false
set_option linter.unusedSimpArgs false
set_option maxRecDepth 100000
namespace Go.Proofs.YtgpbpgpolpakjaaGreatDoor
open Go.RowKit Go.Shelf L
def L.pv (zs : List Int) (i : Nat) : Int := if i = 0 then 0 else zs[i - 1]?.getD 0
theorem L.z0h (q : Nat) (h : 2 ≤ q) (hq : q < 18446744073709551616) : need q = need (q / 2) + 1 := by
 have h1 := zdj q hq
 have h2 := zdj (q / 2) (by omega)
 have h3 : need (q / 2) ≠ 0 := fun e => by rw [e] at h2; have := h2.1; simp at this; omega
 have h4 := h2.2.1 h3
 obtain ⟨k, hk⟩ : ∃ k, need (q / 2) = k + 1 := ⟨need (q / 2) - 1, by omega⟩
 refine zlv (x := q) h1.1 h1.2.1 ?_ (fun _ => ?_)
 ·have := h2.1
  rw [Nat.pow_succ]; omega
 ·rw [Nat.add_sub_cancel, hk, Nat.pow_succ]
  rw [hk, Nat.add_sub_cancel] at h4
  omega
theorem L.z2x : need 1 = 1 := zlv (x := 1) (zdj 1 (by decide)).1 (zdj 1 (by decide)).2.1 (by decide) (by decide)
theorem ztq (n : Nat) (B : Int) (w : World) (hn : n ≤ 16777216) (hB : B ≤ 9223372036854775807) :
  Calls Tryz.prog 43 #[.int .i64 (n : Nat), .int .i64 B] w fun e w' => e = .returned (.int .i64 (wd n B.toNat : Nat)) ∧ w = w' := by
 rcases Nat.eq_zero_or_pos n with h0 | h0
 ·have g0 : ((n : Int) == 0) = true := by rw [beq_iff_eq]; omega
  have HW := hid (show wd n B.toNat = 0 by unfold wd; rw [if_pos (Or.inl h0)])
  clear h0
  go_enter Tryz.func43, Tryz.ntmps43
  go_wp2_with fail
  go_ret
  exact ⟨by rw [HW.out]; rfl, rfl⟩
 ·have g0 : ((n : Int) == 0) = false := by rw [beq_eq_false_iff_ne]; omega
  have hnw : IntKind.i64.wrap (2 * (n : Int)) = 2 * (n : Int) := by rw [IntKind.wrap_i64]; omega
  by_cases h2 : B < 2 * (n : Int)
  ·have g1 : decide (B < 2 * (n : Int)) = true := decide_eq_true h2
   have HW := hid (show wd n B.toNat = 0 by unfold wd; rw [if_pos (Or.inr (by omega))])
   clear h2
   go_enter Tryz.func43, Tryz.ntmps43
   go_wp2_with fail
   go_ret
   exact ⟨by rw [HW.out]; rfl, rfl⟩
  ·have g1 : decide (B < 2 * (n : Int)) = false := decide_eq_false h2
   obtain ⟨b, rfl⟩ := Int.eq_ofNat_of_zero_le (show 0 ≤ B by omega)
   have HW := hid (show wd n b = need (b / n) - 1 by unfold wd; rw [if_neg (by omega)])
   have hq2 : 2 ≤ b / n := (Nat.le_div_iff_mul_le h0).2 (by omega)
   have hqB : b / n ≤ b := Nat.div_le_self _ _
   obtain ⟨q0, hq⟩ : ∃ q, q = b / n := ⟨_, rfl⟩
   have hqI : (b : Int) / (n : Int) = (q0 : Int) := by rw [hq]; simp
   have hqT : (b : Int).tdiv (n : Int) = (q0 : Int) := by rw [Int.tdiv_eq_ediv_of_nonneg (by omega)]; exact hqI
   rw [← hq] at HW hq2 hqB
   have hqW : IntKind.i64.wrap (q0 : Int) = (q0 : Int) := by rw [IntKind.wrap_i64]; omega
   have hnp := (zdj q0 (by omega)).2.2
   clear hq h2
   go_enter Tryz.func43, Tryz.ntmps43
   go_wp2_with fail
   go_loop [5, 6] (fun v u => ∃ (a q : Nat), v = .int .i64 (a : Nat) ∧ u = .int .i64 (q : Nat) ∧ 1 ≤ q ∧ q ≤ q0 ∧ need q + a = need q0) (fun _ u => (intOf u).toNat)
   case atStart => exact ⟨0, q0, rfl, rfl, by omega, Nat.le_refl _, rfl⟩
   case round =>
    obtain ⟨a, q, rfl, rfl, h1, hqq, hna⟩ := hrel
    rcases Nat.lt_or_ge 1 q with h | h
    ·have d1 : decide ((q : Int) > 1) = true := decide_eq_true (by omega)
     have hd : (q : Int) / 2 = ((q / 2 : Nat) : Int) := by omega
     have ht : (q : Int).tdiv 2 = ((q / 2 : Nat) : Int) := by rw [Int.tdiv_eq_ediv_of_nonneg (by omega)]; exact hd
     have hdw : IntKind.i64.wrap ((q / 2 : Nat) : Int) = ((q / 2 : Nat) : Int) := by rw [IntKind.wrap_i64]; omega
     have haw : IntKind.i64.wrap ((a : Int) + 1) = (a : Int) + 1 := by rw [IntKind.wrap_i64]; omega
     have hr : need (q / 2) + (a + 1) = need q0 := by have := L.z0h q (by omega) (by omega); omega
     have hb1 : 1 ≤ q / 2 := by omega
     have hb2 : q / 2 < q := by omega
     generalize q / 2 = r at *
     go_wp2_with fail
     go_round
     case rel => exact ⟨a + 1, r, by go_num, by first | rfl | go_num, hb1, by omega, hr⟩
     case measure => simp [intOf]; omega
    ·obtain rfl : q = 1 := by omega
     rw [L.z2x] at hna
     have ha : a = need q0 - 1 := by omega
     have HA := hid ha
     clear ha hna h
     go_wp2_with fail
     go_ret
     exact ⟨by first | (rw [HW.out, ← HA.out]; rfl) | (rw [Int.toNat_natCast, HW.out, ← HA.out]; rfl), rfl⟩
open Go.Sort
theorem L.Ris.snoc {l : List Nat} (h : Ris l) {m : Nat} (hm : ∀ y ∈ l, y ≤ m) : Ris (l ++ [m]) := by
 unfold Ris at *
 rw [List.pairwise_append]
 exact ⟨h, List.pairwise_singleton _ _, fun a ha b hb => by rw [List.mem_singleton] at hb; subst hb; exact hm a ha⟩
theorem L.zas.snoc {l : List Nat} {B m : Nat} (hr : zas l B) (hm : ∀ y ∈ l, y ≤ m) (hB : m < B) : zas (l ++ [m]) B :=
 ⟨hr.1, hr.2.1.snoc hm, fun x hx => by
  rcases List.mem_append.1 hx with h | h
  ·exact hr.2.2 x h
  ·rw [List.mem_singleton] at h; omega⟩
theorem L.Ris.last {l : List Nat} (h : Ris l) (h0 : 0 < l.length) : ∀ y ∈ l, y ≤ l[l.length - 1] := by
 intro y hy
 obtain ⟨j, hj, rfl⟩ := List.mem_iff_getElem.1 hy
 exact h.le (by omega) (by omega)
end Go.Proofs.YtgpbpgpolpakjaaGreatDoor
