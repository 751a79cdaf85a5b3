/- Walks: are two lists of records the same? Records of bytes that are known. -/
import Derived.Test.YtegoephanphnkaaSplitD
set_option linter.unusedVariables false
set_option linter.unusedSimpArgs false
set_option maxRecDepth 100000
namespace Go.Proofs.Ytegoephanphnkaa
open Go.RowKit Go.Shelf L

set_option maxHeartbeats 2000000 in
theorem same_true (A B : Option Addr) (c d : Nat) (xs : List RecN) (w : World) (hA : Lst w A (recC xs)) (hB : Lst w B (recC xs)) (hn : xs.length ≤ 1000000) :
    Calls Try.prog 20 #[.slice A xs.length c, .slice B xs.length d] w fun e w' => e = .returned (.bool true) ∧ ∃ m, w' = w.drewN m := by
  go_enter Try.func20, Try.ntmps20
  go_wp2_with fail
  go_loopw [5] (fun iv wr => ∃ j m : Nat, iv = .int .i64 (j : Nat) ∧ j ≤ xs.length ∧ wr = w.drewN m) (fun iv _ => xs.length - (intOf iv).toNat)
  case atStart => exact ⟨0, 0, rfl, by omega, rfl⟩
  case round =>
    obtain ⟨j, m, rfl, hj, rfl⟩ := hrel
    rcases Nat.lt_or_ge j xs.length with hlt | hge
    · have hji : (j : Int) < (xs.length : Int) := by omega
      have hji2 : decide ((j : Int) < (xs.length : Int)) = true := decide_eq_true hji
      have hj0 : (0 : Int) ≤ (j : Int) := by omega
      have hjW := wrap_one j (by omega)
      obtain ⟨g, o, rfl, k0, k1, k2, k3⟩ := rec_cells hA hlt
      obtain ⟨g2, o2, rfl, l0, l1, l2, l3⟩ := rec_cells hB hlt
      generalize xs[j] = r at *
      go_wp2_with fail
      go_quiet (fail)
      go_wp2_with fail
      go_roundw
      case rel => exact ⟨j + 1, _, by go_num, by omega, rfl⟩
      case measure => simp [intOf]; omega
    · obtain rfl : j = xs.length := by omega
      go_wp2_with fail
      go_ret
      exact ⟨rfl, _, rfl⟩

/-- Records, of so few bytes that there can't be too many. -/
theorem records_few (s : ByteArray) (deep : Nat) (hs : s.size ≤ 4096) (h1 : 1 ≤ deep) (h2 : deep ≤ 4096) (l : List Nat) (hl : nb s = l) (w : World) :
    Calls Try.prog 18 #[.string s, .int .i64 (deep : Nat)] w fun e w' => ∃ A c, e = .returned (.tuple #[.slice A (recs l deep).length c, .int .i64 0]) ∧ Lst w' A (recC (recs l deep)) ∧ (recs l deep).length ≤ c ∧ Below w.heap.size w w' := by
  subst hl
  refine (records_all s deep w (by omega) h1 h2 (by have := spans_length (nb s); rw [nb_length] at this; omega)).mono ?_
  rintro e w' ⟨A, c, h3, h4, h5⟩
  refine ⟨A, c, h3, own_lst2 h4 (by omega), ?_, h5⟩
  rcases h4.2 with ⟨h6, h7⟩ | ⟨g, cap, cur, h6, _, _, h7, _⟩
  · omega
  · simp only [Value.slice.injEq] at h6; omega

end Go.Proofs.Ytegoephanphnkaa
