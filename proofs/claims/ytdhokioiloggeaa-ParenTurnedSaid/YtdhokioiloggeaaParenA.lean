/- Walks: stretches of a row; their excess. -/
import Derived.Test.YtdhokioiloggeaaBitsI
import Derived.Test.YtdhokioiloggeaaWordB
set_option linter.unusedVariables false
set_option linter.unusedSimpArgs false
set_option maxRecDepth 100000
namespace Go.Proofs.Ytdhokioiloggeaa
open Go.RowKit L

/-- Where a stretch ends. -/
def heldTo (n : Nat) (i j : Int) : Nat := (min (max j (held n i : Nat)) n).toNat
theorem heldTo_ge (n : Nat) (i j : Int) : held n i ≤ heldTo n i j := by have := held_le n i; unfold heldTo; omega
theorem heldTo_le (n : Nat) (i j : Int) : heldTo n i j ≤ n := by unfold heldTo; omega

theorem ends_any (g : Nat) (A : Option Addr) (c : Nat) (bs : List Bool) (i j : Int) (w : World) (hr : RowAt w g A c bs) :
    Calls Try.prog 72 #[.pointer (some ⟨g, 0, none⟩), .int .i64 i, .int .i64 j] w fun e w' => e = .returned (.tuple #[.int .i64 (held bs.length i : Nat), .int .i64 (heldTo bs.length i j : Nat)]) ∧ w = w' := by
  have hcl := hr.cells.2
  have hpl := held_le bs.length i
  have HPI := hid (show min (max i 0) ((bs.length : Nat) : Int) = ((held bs.length i : Nat) : Int) by unfold held; omega)
  have HPJ := hid (show min (max j ((held bs.length i : Nat) : Int)) ((bs.length : Nat) : Int) = ((heldTo bs.length i j : Nat) : Int) by unfold heldTo; omega)
  generalize heldTo bs.length i j = q at *
  generalize held bs.length i = p at *
  have e1 := HPI.out
  have e2 := HPJ.out
  go_enter Try.func72, Try.ntmps72
  go_wp2_with (go_at_call 37; refine (rlen_any g _ _ hcl).mono ?_; rintro e w' ⟨rfl, rfl⟩)
  go_ret2
  exact ⟨rfl, rfl⟩

theorem fld_testBit (bs : List Bool) (p n i : Nat) (h : i < n) : (fld bs p n).testBit i = sh (bitAt bs) p i := by
  unfold fld sh
  rw [num_testBit, bitAt_drop_take]
  have : decide (i < n) = true := by simpa using h
  rw [this, Bool.true_and]

theorem piece_any (g : Nat) (A : Option Addr) (c : Nat) (bs : List Bool) (a b : Nat) (w : World) (hr : RowAt w g A c bs) (hab : a ≤ b) (hb : b ≤ bs.length) :
    Calls Try.prog 73 #[.pointer (some ⟨g, 0, none⟩), .int .i64 (a : Nat), .int .i64 (b : Nat)] w fun e w' => e = .returned (.tuple #[.int .u64 (fld bs a (min 64 (b - a)) : Nat), .int .i64 (min 64 (b - a) : Nat)]) ∧ ∃ m, w' = w.drewN m := by
  have hsm := hr.small
  obtain ⟨n, hn⟩ : ∃ n, n = min 64 (b - a) := ⟨_, rfl⟩
  have hn64 : n ≤ 64 := by omega
  have hnl : a + n ≤ bs.length := by omega
  have HM := hid (show min (64 : Int) ((b : Int) - (a : Int)) = (n : Int) by omega)
  rw [← hn]
  clear hn
  have e1 := HM.out
  go_enter Try.func73, Try.ntmps73
  go_wp2_with fail
  refine (rField_ok g A c bs a n _ hr hn64 hnl).mono ?_
  rintro e w' ⟨rfl, m, rfl⟩
  go_wp2
  go_ret2
  exact ⟨rfl, m, rfl⟩

theorem fld_lt64 (bs : List Bool) (p n : Nat) (h : n ≤ 64) : fld bs p n < 18446744073709551616 :=
  Nat.lt_of_lt_of_le (fld_lt bs p n) (Nat.pow_le_pow_right (n := 2) (by omega) h)

set_option maxHeartbeats 1000000 in
theorem pExcess_any (g : Nat) (A : Option Addr) (c : Nat) (bs : List Bool) (i j : Int) (w : World) (hr : RowAt w g A c bs) :
    Calls Try.prog 50 #[.pointer (some ⟨g, 0, none⟩), .int .i64 i, .int .i64 j] w fun e w' =>
      e = .returned (.int .i64 (ex (sh (bitAt bs) (held bs.length i)) (heldTo bs.length i j - held bs.length i))) ∧ ∃ m, w' = w.drewN m := by
  have hsm := hr.small
  have h1 := heldTo_ge bs.length i j
  have h2 := heldTo_le bs.length i j
  have HE := hid (fun W hW => ends_any g A c bs i j W hW)
  generalize heldTo bs.length i j = b at *
  generalize held bs.length i = a at *
  go_enter Try.func50, Try.ntmps50
  go_wp2_with fail
  refine (HE.out _ hr).mono ?_
  rintro e w' ⟨rfl, rfl⟩
  go_wp2_with fail
  go_loopw [1, 7] (fun f e wr => ∃ k m : Nat, a + k ≤ b ∧ f = .int .i64 (a + k : Nat) ∧ e = .int .i64 (ex (sh (bitAt bs) a) k) ∧ wr = w.drewN m) (fun f _ _ => b - (intOf f).toNat)
  case atStart => exact ⟨0, 0, by omega, rfl, rfl, rfl⟩
  case round =>
    obtain ⟨k, m, hk, rfl, rfl, rfl⟩ := hrel
    have hex := ex_abs (sh (bitAt bs) a) k
    rcases Nat.lt_or_ge (a + k) b with hlt | hge
    · have hlti : (a : Int) + (k : Int) < (b : Int) := by omega
      have hlti2 : ((a + k : Nat) : Int) < (b : Int) := by omega
      have hr2 : RowAt (w.drewN m) g A c bs := hr
      go_wp2_with fail
      refine (piece_any g A c bs (a + k) b _ hr2 (by omega) h2).mono ?_
      rintro e w' ⟨rfl, m2, rfl⟩
      have hn1 : 0 < min 64 (b - (a + k)) := by omega
      have hn2 : min 64 (b - (a + k)) ≤ 64 := by omega
      have hn3 : a + k + min 64 (b - (a + k)) ≤ b := by omega
      generalize min 64 (b - (a + k)) = n at *
      have hv := fld_lt64 bs (a + k) n hn2
      have HX := hid (show ex (fld bs (a + k) n).testBit (clampN (n : Int)) = ex (sh (sh (bitAt bs) a) k) n by
        rw [show clampN (n : Int) = n from by unfold clampN; omega]
        refine ex_congr n (fun i hi => ?_)
        rw [fld_testBit bs _ _ _ hi]; unfold sh; rw [Nat.add_assoc])
      have HA := hid (ex_add (sh (bitAt bs) a) k n)
      have hex2 := ex_abs (sh (bitAt bs) a) (k + n)
      generalize fld bs (a + k) n = v at *
      go_wp2_with fail
      refine (excess_any v (n : Nat) _ hv).mono ?_
      rw [HX.out]
      rintro e w' ⟨rfl, rfl⟩
      have hex3 := ex_abs (sh (sh (bitAt bs) a) k) n
      go_wp2
      go_roundw
      case rel => exact ⟨k + n, m + m2, by omega, by go_num, by rw [HA.out], rfl⟩
      case measure => simp [intOf]; omega
    · obtain rfl : b = a + k := by omega
      go_wp2
      go_ret
      exact ⟨by rw [show a + k - a = k from by omega]; rfl, m, rfl⟩

end Go.Proofs.Ytdhokioiloggeaa
